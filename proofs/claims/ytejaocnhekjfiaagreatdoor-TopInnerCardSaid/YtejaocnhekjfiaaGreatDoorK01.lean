/- Walks and plain laws, part 1: Kit Base Grid Grid2 Grid3 Shelf S25Field Seeds Shape. -/
import Derived.WalkKit
import Derived.WalkSpells
import Derived.WalkLawsBesides
import Derived.Lib.Hide
import Derived.Deep.WholeRow
import Derived.Laws.AppendOwnNone
import Derived.Test.YtejaocnhekjfiaaGreatDoorProg
import Derived.RegionTactic
import Derived.ChangeAlike
import Derived.Deep.RegionHeld3
import Derived.BigQuiet
import Derived.Maps.AppendAt
import Derived.Deep.OwnRows
import Derived.Shelf.Strings.Builder1
import Derived.Shelf.Small.Bits
import Derived.Shelf.Small.Strs
import Derived.Shelf.Strings.BuilderF
import Derived.Shelf.Strings.BuilderK
import Derived.Shelf.Strconv.Itoa0
import Derived.Shelf.Strconv.Itoa1
import Derived.Shelf.LaysM
import Derived.Shelf.Strconv.Itoa2
import Derived.Shelf.Strconv.Itoa3
import Derived.Shelf.Strconv.Itoa4
import Derived.Shelf.Strconv.ParseIntEmpty
import Derived.Shelf.Strconv.Clone
import Derived.Shelf.Strconv.SyntaxError
import Derived.Shelf.LaysC
import Derived.Shelf.Strconv.ToError
import Derived.Shelf.Strconv.Lower
import Derived.Shelf.Strconv.ParseUint10
import Derived.Shelf.Strconv.ParseUint10Empty
import Derived.Shelf.Strconv.ParseUint10Any
import Derived.Shelf.Strconv.ParseInt10
import Derived.Shelf.Strconv.RangeError
import Derived.Shelf.Strconv.ToErrorRange
import Derived.Shelf.Strconv.ParseUintEmpty
import Derived.Shelf.Strconv.ParseUint10b64
import Derived.Shelf.Strconv.ParseUint10b32
import Derived.Shelf.Strconv.ParseUint10b16
import Derived.Shelf.Strconv.ParseUint10b8
import Derived.Shelf.Strconv.ParseUint10At
import Derived.Shelf.Strconv.ParseInt10At64
import Derived.Shelf.Strconv.ParseInt10At32
import Derived.Shelf.Strconv.ParseInt10At16
import Derived.Shelf.Strconv.ParseInt10At8
import Derived.Shelf.Strconv.ParseInt10All
import Derived.Shelf.Strconv.ParseIntPublic10
import Derived.Shelf.Strconv.ErrVarParseInt
import Derived.Shelf.Strings.Search1
import Derived.Shelf.Strings.Search2
import Derived.Shelf.Strings.Search3
import Derived.Shelf.Strings.Shaped
import Derived.Shelf.Unicode.Decode
import Derived.Shelf.Bits.Mul64
import Derived.Shelf.Unicode.DecodeSlow
import Derived.Shelf.Unicode.DecodeAny
import Derived.Shelf.Strings.BuilderCap
import Derived.Ground.Names2Prog
import Derived.Shelf.Slices.SearchI
import Derived.Ground.SlgnProg
import Derived.Shelf.SlicesE.Clone
import Derived.Test.YtejaocnhekjfiaaGreatDoorRows
import Derived.Laws.BitsLemmas
import Derived.Deep.QuietTactic
import Derived.Outline
import Derived.Deep.DeepCutAuto
import Derived.Lib.QuietBelow
namespace Go.Proofs.YtejaocnhekjfiaaGreatDoor
open Go.RowKit
set_option linter.unusedVariables false
structure Only (b : Nat) (w w' : World) : Prop where
 os : w'.os = w.os
 tape : w'.tape = w.tape
 output : w'.output = w.output
 size : w'.heap.size = w.heap.size
 block : ∀ k,k ≠ b → w'.heap[k]? = w.heap[k]?
theorem Only.below {b B : Nat} {w w' : World} (h : Only b w w') (hb : B ≤ b) : Below B w w':=
 ⟨h.os,h.tape,h.output,Nat.le_of_eq h.size.symm,fun k hk => h.block k (by omega)⟩
theorem Only.refl (b : Nat) (w : World) : Only b w w:=⟨rfl,rfl,rfl,rfl,fun _ _ => rfl⟩
theorem Only.trans {b : Nat} {u w w' : World} (h : Only b u w) (k : Only b w w') : Only b u w':=
 ⟨k.os.trans h.os,k.tape.trans h.tape,k.output.trans h.output,k.size.trans h.size,fun i hi => (k.block i hi).trans (h.block i hi)⟩
theorem Only.store (w : World) (b i : Nat) (v : Value) : Only b w (w.setCell ⟨b,i,none⟩ v):=
 ⟨rfl,rfl,rfl,by simp [World.setCell],fun k hk => heap_setCell_other _ _ _ _ hk⟩
theorem Only.drew {b : Nat} {w w' : World} (h : Only b w w') : Only b w w'.drew:=⟨h.os,h.tape,h.output,h.size,h.block⟩
def Row (w : World) (a : Option Addr) (len : Nat) (xs : List Value) : Prop:=
 xs.length = len ∧ ∀ i x,xs[i]? = some x → ∃ b o,a = some ⟨b,o,none⟩ ∧ w.cell? ⟨b,o + i,none⟩ = some x ∧ b < w.heap.size
theorem Row.below {w w' : World} {a len xs} (h : Row w a len xs) (hb : Below w.heap.size w w') : Row w' a len xs:=by
 refine ⟨h.1,fun i x hx => ?_⟩
 obtain ⟨b,o,e,c,lt⟩:=h.2 i x hx
 exact ⟨b,o,e,by rw [hb.cell lt]; exact c,Nat.lt_of_lt_of_le lt hb.size⟩
theorem Row.nil (w : World) (a : Option Addr) : Row w a 0 []:=⟨rfl,by simp⟩
theorem Row.own {w : World} {base : Nat} {e : TypeId} {v : Value} {n : Nat} {xs : List Value} (h : w.ownsRow base e 1 v n xs) :
   ∃ a c,v = .slice a n c ∧ Row w a n xs:=by
 rcases h with ⟨hl,⟨rfl,rfl⟩ | ⟨g,cap,cur,rfl,hg,hh,hnc,hcm,hcs,ht⟩⟩
 · exact ⟨none,0,rfl,by simpa using hl,by simp at hl; subst hl; simp⟩
 · refine ⟨_,cap,rfl,by simpa using hl,fun i x hx => ⟨g,0,rfl,?_,lt_of_block hh⟩⟩
   rw [Nat.zero_add,cell_of_row w g i cur e (0,0) hh]
   rw [← ht] at hx
   simp only [Nat.mul_one,List.getElem?_take] at hx
   split at hx
   · simpa using hx
   · simp at hx
section
variable {P : Program} {w : World}
theorem wpList_append_copy {ops : Array Oper} {rest : List Oper} {o : Oper} {a : Act} {Q : Exit → Act → World → Prop} (hgd : o.guard = none) (s x : Operand) (t : TypeId)
   (ho : o.op = .call { callee:=.builtin .append,args:=#[s,x],argTypes:=#[t,t] })
   (base : Nat) (e : TypeId) (i : TypeInfo) (z : Value) (bytes : Nat) (ht : P.underlying t = some (.slice e)) (hi : P.info? e = some i) (hz : i.zero = some z)
   (hsize : i.size = 1) (hby : i.bytes = bytes) (hzs : z.cells.size = 1)
   (v : Value) (n : Nat) (ys : List Value) (hs : a.eval s = v) (hown : w.ownsRow base e 1 v n ys)
   (ad : Option Addr) (m c : Nat) (xs : List Value) (hx : a.eval x = .slice ad m c) (hr : Row w ad m xs) (hcap : ad = none → c = 0) (h1 : ∀ u ∈ xs,u.oneCell' = true)
   (h63 : n + m ≤ maxLen) (hbytes : (n + m) * bytes ≤ 140737488355328) (hbase : base ≤ w.heap.size)
   (h : ∀ v' w',w'.ownsRow base e 1 v' (n + m) (ys ++ xs) → Below base w w' → (v' = .slice none 0 0 → v = .slice none 0 0) → wpList P ops Q rest (a.put o.dst v') w') : wpList P ops Q (o :: rest) a w:=by
 have hblk : ∀ k,v.ownBlock = some k → base ≤ k:=by
   intro k hk
   rcases hown.2 with ⟨h,_⟩ | ⟨g,cap,cur,h,hg,_⟩
   · rw [h] at hk; simp [Value.ownBlock] at hk
   · rw [h] at hk; simp [Value.ownBlock] at hk; omega
 cases ad with
 | some ad =>
   refine wpList_append_own w hgd s x t ho base e i z 1 bytes ht hi hz hsize hby hzs (by omega) v n ys hs hown ad m c xs hx (by rw [hr.1]; omega) ?_ h1 h63 hbytes hbase ?_
   · intro j u hj
     obtain ⟨b,o',e',hc,_⟩:=hr.2 j u hj
     simp only [Option.some.injEq] at e'
     subst e'
     unfold Addr.add
     split
     · rename_i h0; subst h0; exact hc
     · exact hc
   · intro v' w' ho' hg hiff
     exact h v' w' ho' ((Below.refl _ _).grown hg hbase hblk) (fun e => (hiff.1 e).1)
 | none =>
   have hc:=hcap rfl
   subst hc
   have hm : m = 0:=by
     rcases Nat.eq_zero_or_pos m with h | h
     · exact h
     · have:=hr.1
       obtain ⟨x,hx'⟩ : ∃ x,xs[0]? = some x:=⟨xs[0]'(by omega),by rw [List.getElem?_eq_getElem]⟩
       obtain ⟨b,o',e',_⟩:=hr.2 0 x hx'
       simp at e'
   subst hm
   have hxs : xs = []:=List.length_eq_zero_iff.1 hr.1
   subst hxs
   exact wpList_append_own_none hgd s x t ho base e i 1 ht hi v n ys hs hown hx (h v w (by simpa using hown) (Below.refl _ _) id)
theorem wpList_append_fresh {ops : Array Oper} {rest : List Oper} {o : Oper} {a : Act} {Q : Exit → Act → World → Prop} (hgd : o.guard = none) (s x : Operand) (t : TypeId)
   (ho : o.op = .call { callee:=.builtin .append,args:=#[s,x],argTypes:=#[t,t] })
   (base : Nat) (e : TypeId) (i : TypeInfo) (z : Value) (bytes : Nat) (ht : P.underlying t = some (.slice e)) (hi : P.info? e = some i) (hz : i.zero = some z)
   (hsize : i.size = 1) (hby : i.bytes = bytes) (hzs : z.cells.size = 1)
   (ad0 : Addr) (c0 : Nat) (hs : a.eval s = .slice (some ad0) 0 c0) (hown : w.ownsRow base e 1 (.slice (some ad0) 0 c0) 0 [])
   (ad : Option Addr) (m c : Nat) (xs : List Value) (hx : a.eval x = .slice ad m c) (hr : Row w ad m xs) (hcap : ad = none → c = 0) (h1 : ∀ u ∈ xs,u.oneCell' = true)
   (h63 : m ≤ maxLen) (hbytes : m * bytes ≤ 140737488355328) (hbase : base ≤ w.heap.size)
   (hh : ∀ g c' w',base ≤ g → m ≤ c' → c' ≤ 9223372036854775807 → Row w' (some ⟨g,0,none⟩) m xs → w'.ownsRow base e 1 (.slice (some ⟨g,0,none⟩) m c') m xs → Below base w w' → wpList P ops Q rest (a.put o.dst (.slice (some ⟨g,0,none⟩) m c')) w') : wpList P ops Q (o :: rest) a w:=by
 refine wpList_append_copy hgd s x t ho base e i z bytes ht hi hz hsize hby hzs _ 0 [] hs hown ad m c xs hx hr hcap h1 (by omega) (by rw [Nat.zero_add]; exact hbytes) hbase ?_
 intro v' w' hown' hb hnil
 rw [Nat.zero_add,List.nil_append] at hown'
 obtain ⟨a',c',rfl,hrow⟩:=Row.own hown'
 rcases hown'.2 with ⟨h,_⟩ | ⟨g,cap,cur,h,hg,_,hnc,hcm,_⟩
 · have:=hnil h; simp at this
 · simp only [Value.slice.injEq,true_and] at h
   obtain ⟨rfl,rfl⟩:=h
   unfold maxLen at hcm
   exact hh g c' w' hg hnc hcm hrow hown' hb
theorem step_append_grown {ops : Array Oper} {o : Oper} {a : Act} {K : Act → World → Prop} {Q : Exit → Act → World → Prop} {E : Prop} (hgd : o.guard = none) (s x : Operand) (t : TypeId)
   (ho : o.op = .call { callee:=.builtin .append,args:=#[s,x],argTypes:=#[t,t] })
   (base : Nat) (e : TypeId) (i : TypeInfo) (z : Value) (bytes : Nat) (ht : P.underlying t = some (.slice e)) (hi : P.info? e = some i) (hz : i.zero = some z)
   (hsize : i.size = 1) (hby : i.bytes = bytes) (hzs : z.cells.size = 1)
   (v : Value) (n : Nat) (ys : List Value) (hs : a.eval s = v) (hown : w.ownsRow base e 1 v n ys)
   (ad : Option Addr) (m c : Nat) (xs : List Value) (hx : a.eval x = .slice ad m c) (hr : Row w ad m xs) (hcap : ad = none → c = 0) (h1 : ∀ u ∈ xs,u.oneCell' = true)
   (h63 : n + m ≤ maxLen) (hbytes : (n + m) * bytes ≤ 140737488355328) (hbase : base ≤ w.heap.size)
   (h : ∀ v' w',w'.ownsRow base e 1 v' (n + m) (ys ++ xs) → w.grownBy w' v.ownBlock → K (a.put o.dst v') w') :
   if Region.wanted o (yielded ops a.tmps) = true then Oper.wp P o a w K Q else E:=by
 have hw : Region.wanted o (yielded ops a.tmps) = true:=by simp [Region.wanted,hgd]
 rw [if_pos hw]
 cases ad with
 | some ad =>
   refine wp_append_own w s x t ho base e i z 1 bytes ht hi hz hsize hby hzs (by omega) v n ys hs hown ad m c xs hx (by rw [hr.1]; omega) ?_ h1 h63 hbytes hbase ?_
   · intro j u hj
     obtain ⟨b,o',e',hc,_⟩:=hr.2 j u hj
     simp only [Option.some.injEq] at e'
     subst e'
     unfold Addr.add
     split
     · rename_i h0; subst h0; exact hc
     · exact hc
   · intro v' w' ho' hg _
     exact h v' w' ho' hg
 | none =>
   have hc:=hcap rfl
   subst hc
   have hm : m = 0:=by
     rcases Nat.eq_zero_or_pos m with h | h
     · exact h
     · have:=hr.1
       obtain ⟨x,hx'⟩ : ∃ x,xs[0]? = some x:=⟨xs[0]'(by omega),by rw [List.getElem?_eq_getElem]⟩
       obtain ⟨b,o',e',_⟩:=hr.2 0 x hx'
       simp at e'
   subst hm
   have hxs : xs = []:=List.length_eq_zero_iff.1 hr.1
   subst hxs
   have hrun:=run_append_owned_none (P:=P) (w:=w) base t o.type e i 1 ht hi v n ys hown
   unfold Oper.wp
   simp [execOp,ho,resolve,invoke,builtin,hs,hx,hrun,Result.andThen]
   exact h v w (by simpa using hown) ⟨rfl,rfl,rfl,Nat.le_refl _,fun _ _ _ => rfl⟩
theorem step_append_own {ops : Array Oper} {o : Oper} {a : Act} {K : Act → World → Prop} {Q : Exit → Act → World → Prop} {E : Prop} (hgd : o.guard = none) (s x : Operand) (t : TypeId)
   (ho : o.op = .call { callee:=.builtin .append,args:=#[s,x],argTypes:=#[t,t] })
   (base : Nat) (e : TypeId) (i : TypeInfo) (z : Value) (bytes : Nat) (ht : P.underlying t = some (.slice e)) (hi : P.info? e = some i) (hz : i.zero = some z)
   (hsize : i.size = 1) (hby : i.bytes = bytes) (hzs : z.cells.size = 1)
   (v : Value) (n : Nat) (xs : List Value) (hs : a.eval s = v) (hown : w.ownsRow base e 1 v n xs)
   (g c : Nat) (u : Value) (hx : a.eval x = .slice (some ⟨g,0,none⟩) 1 c) (hc : w.cell? ⟨g,0,none⟩ = some u) (h1 : u.oneCell' = true)
   (h63 : n + 1 ≤ maxLen) (hbytes : (n + 1) * bytes ≤ 140737488355328) (hbase : base ≤ w.heap.size)
   (h : ∀ v' w',w'.ownsRow base e 1 v' (n + 1) (xs ++ [u]) → Below base w w' → K (a.put o.dst v') w') :
   if Region.wanted o (yielded ops a.tmps) = true then Oper.wp P o a w K Q else E:=by
 have hw : Region.wanted o (yielded ops a.tmps) = true:=by simp [Region.wanted,hgd]
 rw [if_pos hw]
 have hblk : ∀ k,v.ownBlock = some k → base ≤ k:=by
   intro k hk
   rcases hown.2 with ⟨h,_⟩ | ⟨g,cap,cur,h,hg,_⟩
   · rw [h] at hk; simp [Value.ownBlock] at hk
   · rw [h] at hk; simp [Value.ownBlock] at hk; omega
 refine wp_append_own w s x t ho base e i z 1 bytes ht hi hz hsize hby hzs (by omega) v n xs hs hown ⟨g,0,none⟩ 1 c [u] hx rfl ?_ ?_ h63 hbytes hbase ?_
 · intro j u' hj
   match j,hj with
   | 0,hj => simp at hj; subst hj; simpa [Addr.add] using hc
 · intro u' hu; simp at hu; subst hu; exact h1
 · intro v' w' ho' hg _
   exact h v' w' ho' ((Below.refl _ _).grown hg hbase hblk)
theorem owns_empty (w : World) (e : TypeId) : (w.alloc (.cells #[] e)).ownsRow w.heap.size e 1 (.slice (some ⟨w.heap.size,0,none⟩) 0 0) 0 []:=
 World.ownsRow_lit w #[] 0 (Nat.le_refl _) (by unfold maxLen; omega) rfl
end
theorem news_one (w : World) (v : Value) (t : TypeId) : ∀ j u,([v] : List Value)[j]? = some u → (w.alloc (.cells #[v] t)).cell? ((⟨w.heap.size,0,none⟩ : Addr).add j) = some u:=by
 intro j u hj
 match j,hj with
 | 0,hj =>
   simp at hj; subst hj
   exact (cell_of_row _ _ _ _ _ _ (heap_alloc_new w (.cells #[v] t))).trans rfl
theorem one_int (k : IntKind) (x : Int) : ∀ u ∈ [Value.int k x],u.oneCell' = true:=by
 intro u hu; simp at hu; subst hu; rfl
theorem setCell_one_self {w : World} {b : Nat} {v : Value} {t : TypeId} (h : w.heap[b]? = some (.cells #[v] t (0,0))) : w.setCell ⟨b,0,none⟩ v = w:=by
 rw [setCell_eq_setRow w b 0 #[v] t (0,0) v h]
 exact setRow_self _ _ _ _ _ h
theorem and_65535 (x : Int) : bits BinOp.and IntKind.i64 x 65535 = ((x % 65536).toNat : Int):=by
 show IntKind.i64.wrap ((BitVec.ofInt 64 x &&& BitVec.ofInt 64 65535).toNat : Int) = _
 have e : (BitVec.ofInt 64 65535).toNat = 2 ^ 16 - 1:=by decide
 rw [BitVec.toNat_and,e,Nat.and_two_pow_sub_one_eq_mod,BitVec.toNat_ofInt]
 rw [IntWalk.i64_in _ (by omega)]
 omega
end Go.Proofs.YtejaocnhekjfiaaGreatDoor
namespace Go.Proofs.YtejaocnhekjfiaaGreatDoor
open Go.RowKit
set_option linter.unusedVariables false
structure Upd (S : Nat → Prop) (w w' : World) : Prop where
 os : w'.os = w.os
 tape : w'.tape = w.tape
 output : w'.output = w.output
 size : w.heap.size ≤ w'.heap.size
 block : ∀ k,k < w.heap.size → ¬ S k → w'.heap[k]? = w.heap[k]?
theorem Upd.refl (S : Nat → Prop) (w : World) : Upd S w w:=⟨rfl,rfl,rfl,Nat.le_refl _,fun _ _ _ => rfl⟩
theorem Upd.mono {S T : Nat → Prop} {w w' : World} (h : Upd S w w') (hs : ∀ k,S k → T k) : Upd T w w':=
 ⟨h.os,h.tape,h.output,h.size,fun k hk hn => h.block k hk (fun e => hn (hs k e))⟩
theorem Upd.trans {S : Nat → Prop} {u w w' : World} (h : Upd S u w) (k : Upd S w w') : Upd S u w':=
 ⟨k.os.trans h.os,k.tape.trans h.tape,k.output.trans h.output,Nat.le_trans h.size k.size,fun i hi hb => (k.block i (Nat.lt_of_lt_of_le hi h.size) hb).trans (h.block i hi hb)⟩
theorem Upd.then {S T : Nat → Prop} {u w w' : World} (h : Upd S u w) (k : Upd T w w') (hs : ∀ i,T i → i < u.heap.size → S i) : Upd S u w':=
 ⟨k.os.trans h.os,k.tape.trans h.tape,k.output.trans h.output,Nat.le_trans h.size k.size,
  fun i hi hb => (k.block i (Nat.lt_of_lt_of_le hi h.size) (fun e => hb (hs i e hi))).trans (h.block i hi hb)⟩
theorem Upd.of_below {S : Nat → Prop} {w w' : World} (h : Below w.heap.size w w') : Upd S w w':=⟨h.os,h.tape,h.output,h.size,fun k hk _ => h.block k hk⟩
theorem Upd.of_only {S : Nat → Prop} {b : Nat} {w w' : World} (h : Only b w w') (hb : S b) : Upd S w w':=⟨h.os,h.tape,h.output,Nat.le_of_eq h.size.symm,fun k _ hk => h.block k (fun e => hk (e ▸ hb))⟩
theorem Upd.drew {S : Nat → Prop} {w w' : World} (h : Upd S w w') : Upd S w w'.drew:=⟨h.os,h.tape,h.output,h.size,h.block⟩
theorem Upd.drewN {S : Nat → Prop} {w w' : World} (h : Upd S w w') (n : Nat) : Upd S w (w'.drewN n):=⟨h.os,h.tape,h.output,h.size,h.block⟩
theorem Upd.below {S : Nat → Prop} {B : Nat} {w w' : World} (h : Upd S w w') (hb : ∀ k,S k → B ≤ k) (hs : B ≤ w.heap.size) : Below B w w':=
 ⟨h.os,h.tape,h.output,h.size,fun k hk => h.block k (by omega) (fun e => by have:=hb k e; omega)⟩
theorem Upd.toBelow {w w' : World} (h : Upd (fun _ => False) w w') : Below w.heap.size w w':=⟨h.os,h.tape,h.output,h.size,fun k hk => h.block k hk id⟩
theorem Upd.store {S : Nat → Prop} (w : World) (b i : Nat) (v : Value) (hb : S b) : Upd S w (w.setCell ⟨b,i,none⟩ v):=Upd.of_only (Only.store w b i v) hb
theorem Upd.alloc {S : Nat → Prop} {w w' : World} (h : Upd S w w') (o : Obj) : Upd S w (w'.alloc o):=
 h.trans (Upd.of_below ((Below.refl _ _).alloc (Nat.le_refl _) o))
theorem Upd.cell {S : Nat → Prop} {w w' : World} (h : Upd S w w') {b : Nat} (hb : b < w.heap.size) (hs : ¬ S b) (o : Nat) : w'.cell? ⟨b,o,none⟩ = w.cell? ⟨b,o,none⟩:=World.cell?_of_block (h.block b hb hs)
theorem Upd.heap {S : Nat → Prop} {w w' : World} (h : Upd S w w') {b : Nat} {o : Obj} (hb : w.heap[b]? = some o) (hs : ¬ S b) : w'.heap[b]? = some o:=(h.block b (lt_of_block hb) hs).trans hb
theorem _root_.Go.Calls.turned {P : Program} {f : FuncId} {args : Array Value} {w : World} {x : Ending} (h : Calls P f args w fun e w' => e = x ∧ w = w') : Calls P f args w fun e w' => e = x ∧ w' = w:=
 h.mono fun _ _ ⟨a,b⟩ => ⟨a,b.symm⟩
theorem _root_.Go.RowKit.Below.then {w w1 w2 : World} (h : Below w.heap.size w w1) (hb : Below w1.heap.size w1 w2) : Below w.heap.size w w2:=h.trans (hb.mono h.size)
theorem cell_make {w : World} {a : Addr} {v : Value} (h : w.cell? a = some v) (o : Obj) : (w.alloc o).cell? a = some v:=(((Below.refl w.heap.size w).alloc (Nat.le_refl _) o).cell (block_lt_of_cell h)).trans h
theorem cell_da {w : World} {a : Addr} {v : Value} (h : w.cell? a = some v) (m : Nat) (o : Obj) : ((w.drewN m).alloc o).cell? a = some v:=cell_make (w:=w.drewN m) h o
structure Ints (w : World) (r : Nat) (zs : List Int) : Prop where
 row : ∃ rest : List Value,w.heap[r]? = some (.cells (zs.map (Value.int .i64) ++ rest).toArray 2 (0,0))
theorem Ints.lt {w r zs} (h : Ints w r zs) : r < w.heap.size:=by obtain ⟨rest,hh⟩:=h.row; exact lt_of_block hh
theorem Ints.cell {w r zs} (h : Ints w r zs) {i : Nat} {x : Int} (hx : zs[i]? = some x) : w.cell? ⟨r,i,none⟩ = some (.int .i64 x):=by
 obtain ⟨rest,hh⟩:=h.row
 refine (cell_of_row _ _ _ _ _ _ hh).trans ?_
 have hi : i < zs.length:=(List.getElem?_eq_some_iff.1 hx).1
 simp only [List.getElem?_toArray]
 rw [List.getElem?_append_left (by simpa using hi),List.getElem?_map,hx]; rfl
theorem Ints.frozen {w r zs} (h : Ints w r zs) (i : Nat) : w.frozen? ⟨r,i,none⟩ = false:=by obtain ⟨rest,hh⟩:=h.row; exact frozen_of_row _ _ _ _ _ hh
theorem Ints.upd {S : Nat → Prop} {w w' : World} {r zs} (h : Ints w r zs) (hu : Upd S w w') (hr : ¬ S r) : Ints w' r zs:=by
 obtain ⟨rest,hh⟩:=h.row; exact ⟨rest,hu.heap hh hr⟩
theorem Ints.set {w r zs} (h : Ints w r zs) (i : Nat) (x : Int) (hi : i < zs.length) : Ints (w.setCell ⟨r,i,none⟩ (.int .i64 x)) r (zs.set i x):=by
 obtain ⟨rest,hh⟩:=h.row
 refine ⟨rest,?_⟩
 rw [heap_setCell_same _ _ _ _ _ _ hh]
 congr 2
 apply Array.ext'
 simp only [Array.toList_setIfInBounds,List.map_set]
 rw [List.set_append_left _ _ (by simpa using hi)]
theorem Ints.toRow {w r zs} (h : Ints w r zs) : Row w (some ⟨r,0,none⟩) zs.length (zs.map (Value.int .i64)):=by
 refine ⟨by simp,fun i x hx => ⟨r,0,rfl,?_,h.lt⟩⟩
 rw [List.getElem?_map,Option.map_eq_some_iff] at hx
 obtain ⟨y,hy,rfl⟩:=hx
 rw [Nat.zero_add]; exact h.cell hy
theorem Ints.of_own {w : World} {base g n c : Nat} {zs : List Int} (h : w.ownsRow base 2 1 (.slice (some ⟨g,0,none⟩) n c) n (zs.map (Value.int .i64))) : Ints w g zs ∧ base ≤ g ∧ n ≤ c ∧ c ≤ maxLen ∧ zs.length = n:=by
 rcases h with ⟨hl,⟨h,_⟩ | ⟨g',cap,cur,h,hg,hh,hnc,hcm,hcs,ht⟩⟩
 · cases h
 · cases h
   refine ⟨⟨cur.toList.drop n,?_⟩,hg,hnc,hcm,by simpa using hl⟩
   rw [hh,← ht,Nat.mul_one,List.take_append_drop]
theorem Ints.lit {w : World} {r : Nat} {zs : List Int} {l : List Value} (h : w.heap[r]? = some (.cells l.toArray 2 (0,0))) (e : l = zs.map (Value.int .i64)) : Ints w r zs:=⟨[],by rw [h,e,List.append_nil]⟩
structure GridIs (w : World) (g r : Nat) (R W : Nat) (zs : List Int) : Prop where
 blk : ∃ cap : Nat,w.heap[g]? = some (.cells #[.int .i64 R,.int .i64 W,.slice (some ⟨r,0,none⟩) zs.length cap] 338 (0,0)) ∧ zs.length ≤ cap ∧ cap ≤ 9223372036854775807
 row : Ints w r zs
 len : zs.length = R * W
 r1 : 1 ≤ R
 r8 : R ≤ 8
 w1 : 1 ≤ W
 w8 : W ≤ 128
theorem GridIs.ne {w g r R W zs} (h : GridIs w g r R W zs) : g ≠ r:=by
 rintro rfl
 obtain ⟨cap,h1,_⟩:=h.blk
 obtain ⟨rest,h2⟩:=h.row.row
 rw [h1] at h2
 simp at h2
theorem GridIs.upd {S : Nat → Prop} {w w' : World} {g r R W zs} (h : GridIs w g r R W zs) (hu : Upd S w w') (hg : ¬ S g) (hr : ¬ S r) : GridIs w' g r R W zs:=by
 obtain ⟨cap,h1,h2⟩:=h.blk
 exact ⟨⟨cap,hu.heap h1 hg,h2⟩,h.row.upd hu hr,h.len,h.r1,h.r8,h.w1,h.w8⟩
theorem GridIs.below {w w' : World} {g r R W zs} (h : GridIs w g r R W zs) (hb : Below w.heap.size w w') : GridIs w' g r R W zs:=
 h.upd (S:=fun _ => False) (Upd.of_below hb) id id
theorem GridIs.set {w g r R W zs} (h : GridIs w g r R W zs) (i : Nat) (x : Int) (hi : i < zs.length) : GridIs (w.setCell ⟨r,i,none⟩ (.int .i64 x)) g r R W (zs.set i x):=by
 obtain ⟨cap,h1,h2⟩:=h.blk
 refine ⟨⟨cap,?_,?_⟩,h.row.set i x hi,?_,h.r1,h.r8,h.w1,h.w8⟩
 · rw [List.length_set]; exact (heap_setCell_other _ _ _ _ h.ne).trans h1
 · rw [List.length_set]; exact h2
 · rw [List.length_set]; exact h.len
theorem GridIs.size {w g r R W zs} (h : GridIs w g r R W zs) : zs.length ≤ 1024 ∧ 1 ≤ zs.length:=by
 have h1:=h.r1; have h2:=h.r8; have h3:=h.w1; have h4:=h.w8
 rw [h.len]
 exact ⟨Nat.mul_le_mul h2 h4,Nat.mul_le_mul h1 h3⟩
theorem GridIs.glt {w g r R W zs} (h : GridIs w g r R W zs) : g < w.heap.size:=by obtain ⟨cap,h1,_⟩:=h.blk; exact lt_of_block h1
structure Cfg where
 bits : Nat
 rows : Nat
 width : Nat
 mode : Nat
 seed : Nat
structure Cfg.ok (c : Cfg) : Prop where
 b1 : 1 ≤ c.bits
 b59 : c.bits ≤ 59
 r1 : 1 ≤ c.rows
 r8 : c.rows ≤ 8
 w1 : 1 ≤ c.width
 w8 : c.width ≤ 128
 m1 : 1 ≤ c.mode
 m3 : c.mode ≤ 3
 s : c.seed < 18446744073709551616
def Cfg.exact (c : Cfg) (n : Nat) : Bool:=decide (2 ^ (c.bits - n) ≤ c.width)
def Cfg.R (c : Cfg) (n : Nat) : Nat:=if c.exact n then 1 else c.rows
def Cfg.W (c : Cfg) (n : Nat) : Nat:=if c.exact n then 2 ^ (c.bits - n) else c.width
structure LA where
 b : Nat
 g : Nat
 r : Nat
structure ArrIs (w : World) (b g r : Nat) (c : Cfg) (n : Nat) (zs : List Int) : Prop where
 blk : w.heap[b]? = some (.cells #[.int .i64 c.bits,.int .i64 c.rows,.int .i64 c.width,.int .i64 c.mode,.int .u64 c.seed,.int .i64 n,.pointer (some ⟨g,0,none⟩)] 294 (0,0))
 grid : GridIs w g r 1 (2 ^ (c.bits - n)) zs
structure SkIs (w : World) (b g r : Nat) (c : Cfg) (n : Nat) (zs : List Int) : Prop where
 blk : w.heap[b]? = some (.cells #[.pointer (some ⟨g,0,none⟩),.int .i64 c.bits,.int .i64 c.rows,.int .i64 c.width,.int .i64 c.mode,.int .u64 c.seed,.int .i64 n] 298 (0,0))
 grid : GridIs w g r c.rows c.width zs
def LevIs (w : World) (c : Cfg) (n : Nat) (A : LA) (zs : List Int) : Prop:=if c.exact n = true then ArrIs w A.b A.g A.r c n zs else SkIs w A.b A.g A.r c n zs
def levV (c : Cfg) (n : Nat) (A : LA) : Value:=.iface (if c.exact n = true then 234 else 237) (.pointer (some ⟨A.b,0,none⟩))
theorem ArrIs.upd {S : Nat → Prop} {w w' : World} {b g r c n zs} (h : ArrIs w b g r c n zs) (hu : Upd S w w') (hb : ¬ S b) (hg : ¬ S g) (hr : ¬ S r) : ArrIs w' b g r c n zs:=⟨hu.heap h.blk hb,h.grid.upd hu hg hr⟩
theorem SkIs.upd {S : Nat → Prop} {w w' : World} {b g r c n zs} (h : SkIs w b g r c n zs) (hu : Upd S w w') (hb : ¬ S b) (hg : ¬ S g) (hr : ¬ S r) : SkIs w' b g r c n zs:=⟨hu.heap h.blk hb,h.grid.upd hu hg hr⟩
theorem ArrIs.below {w w' : World} {b g r c n zs} (h : ArrIs w b g r c n zs) (hb : Below w.heap.size w w') : ArrIs w' b g r c n zs:=h.upd (S:=fun _ => False) (Upd.of_below hb) id id id
theorem SkIs.below {w w' : World} {b g r c n zs} (h : SkIs w b g r c n zs) (hb : Below w.heap.size w w') : SkIs w' b g r c n zs:=h.upd (S:=fun _ => False) (Upd.of_below hb) id id id
theorem LevIs.below {w w' : World} {c n A zs} (h : LevIs w c n A zs) (hb : Below w.heap.size w w') : LevIs w' c n A zs:=by
 unfold LevIs at *; split at h
 · rw [if_pos ‹_›]; exact h.below hb
 · rw [if_neg ‹_›]; exact h.below hb
end Go.Proofs.YtejaocnhekjfiaaGreatDoor
namespace Go.Proofs.YtejaocnhekjfiaaGreatDoor
open Go.RowKit
set_option linter.unusedVariables false
theorem GridIs.cells {w g r R W zs} (h : GridIs w g r R W zs) : ∃ cap : Nat,w.cell? ⟨g,0,none⟩ = some (.int .i64 R) ∧ w.cell? ⟨g,1,none⟩ = some (.int .i64 W) ∧ w.cell? ⟨g,2,none⟩ = some (.slice (some ⟨r,0,none⟩) zs.length cap) ∧ zs.length ≤ cap ∧ cap ≤ 9223372036854775807:=by
 obtain ⟨cap,h1,h2,h3⟩:=h.blk
 exact ⟨cap,(cell_of_row _ _ _ _ _ _ h1).trans rfl,(cell_of_row _ _ _ _ _ _ h1).trans rfl,(cell_of_row _ _ _ _ _ _ h1).trans rfl,h2,h3⟩
theorem rows_any {w g r R W zs} (h : GridIs w g r R W zs) : Calls Tryz.prog 311 #[.pointer (some ⟨g,0,none⟩)] w fun e w' => e = .returned (.int .i64 R) ∧ w = w':=by
 obtain ⟨cap,c0,c1,c2,_⟩:=h.cells
 clear h
 go_enter Tryz.func311,Tryz.ntmps311
 go_wp2
 go_ret
 exact ⟨rfl,rfl⟩
theorem width_any {w g r R W zs} (h : GridIs w g r R W zs) : Calls Tryz.prog 293 #[.pointer (some ⟨g,0,none⟩)] w fun e w' => e = .returned (.int .i64 W) ∧ w = w':=by
 obtain ⟨cap,c0,c1,c2,_⟩:=h.cells
 clear h
 go_enter Tryz.func293,Tryz.ntmps293
 go_wp2
 go_ret
 exact ⟨rfl,rfl⟩
theorem place_in {w g r R W zs} (h : GridIs w g r R W zs) (row col p : Nat) (hr : row < R) (hc : col < W) (hp : row * W + col = p) :
   Calls Tryz.prog 296 #[.pointer (some ⟨g,0,none⟩),.int .i64 row,.int .i64 col] w fun e w' => e = .returned (.tuple #[.int .i64 p,.bool true]) ∧ w = w':=by
 obtain ⟨cap,c0,c1,c2,_⟩:=h.cells
 have hw:=h.w8
 have hR:=h.r8
 clear h
 have g0 : decide ((row : Int) < 0) = false:=by simp
 have g1 : decide (R ≤ row) = false:=by simpa using hr
 have g2 : decide ((col : Int) < 0) = false:=by simp
 have g3 : decide (W ≤ col) = false:=by simpa using hc
 have hq : row * W ≤ 8 * 128:=Nat.mul_le_mul (by omega) hw
 obtain ⟨q,hq1⟩ : ∃ q : Nat,row * W = q:=⟨_,rfl⟩
 have hm : (row : Int) * (W : Int) = (q : Int):=by rw [← hq1]; simp
 have HP:=Lib.hid (show (q : Int) + (col : Int) = (p : Int) by omega)
 have b1 : (q : Int) ≤ 1024:=by omega
 have b2 : (col : Int) ≤ 128:=by omega
 clear hq hq1 hp hr hc hw hR
 go_enter Tryz.func296,Tryz.ntmps296
 go_wp2
 go_ret2
 exact ⟨by rw [HP.out]; rfl,rfl⟩
theorem at_in {w g r R W zs} (h : GridIs w g r R W zs) (row col p : Nat) (x : Int) (hr : row < R) (hc : col < W) (hp : row * W + col = p) (hx : zs[p]? = some x) :
   Calls Tryz.prog 294 #[.pointer (some ⟨g,0,none⟩),.int .i64 row,.int .i64 col] w fun e w' => e = .returned (.int .i64 x) ∧ w = w':=by
 have K:=Lib.hid (place_in h row col p hr hc hp)
 obtain ⟨cap,c0,c1,c2,c3,c4⟩:=h.cells
 have d:=h.row.cell hx
 have hl : p < zs.length:=(List.getElem?_eq_some_iff.1 hx).1
 have hs:=h.size
 clear h hx hp hr hc
 generalize zs.length = n at *
 go_enter Tryz.func294,Tryz.ntmps294
 go_wp2_with (first | (go_at_call 296; ((with_reducible refine K.out.mono ?_)); rintro e w' ⟨rfl,rfl⟩) | fail)
 go_ret
 exact ⟨rfl,rfl⟩
theorem put_in {w g r R W zs} (h : GridIs w g r R W zs) (row col p : Nat) (x : Int) (hr : row < R) (hc : col < W) (hp : row * W + col = p) (hl : p < zs.length) :
   Calls Tryz.prog 295 #[.pointer (some ⟨g,0,none⟩),.int .i64 row,.int .i64 col,.int .i64 x] w fun e w' => e = .returned (.bool true) ∧ w' = w.setCell ⟨r,p,none⟩ (.int .i64 x):=by
 have K:=Lib.hid (place_in h row col p hr hc hp)
 obtain ⟨cap,c0,c1,c2,c3,c4⟩:=h.cells
 obtain ⟨y,hy⟩ : ∃ y,zs[p]? = some y:=⟨zs[p],List.getElem?_eq_getElem hl⟩
 have d:=h.row.cell hy
 have f:=h.row.frozen p
 have hs:=h.size
 clear h hp hr hc hy
 generalize zs.length = n at *
 go_enter Tryz.func295,Tryz.ntmps295
 go_wp2_with (first | (go_at_call 296; ((with_reducible refine K.out.mono ?_)); rintro e w' ⟨rfl,rfl⟩) | fail)
 go_ret
 exact ⟨rfl,rfl⟩
end Go.Proofs.YtejaocnhekjfiaaGreatDoor
namespace Go.Proofs.YtejaocnhekjfiaaGreatDoor
open Go.RowKit
set_option linter.unusedVariables false
def NewInts (w : World) (zs : List Int) (v : Value) (w' : World) : Prop:=
 ∃ g c : Nat,v = .slice (some ⟨g,0,none⟩) zs.length c ∧ Ints w' g zs ∧ w.heap.size ≤ g ∧ zs.length ≤ c ∧ c ≤ 9223372036854775807 ∧ Below w.heap.size w w'
def RNewInts (w : World) (zs : List Int) (e : Ending) (w' : World) : Prop:=∃ v,e = .returned v ∧ NewInts w zs v w'
def NewGrid (w : World) (R W : Nat) (zs : List Int) (e : Ending) (w' : World) : Prop:=
 ∃ g r : Nat,e = .returned (.pointer (some ⟨g,0,none⟩)) ∧ GridIs w' g r R W zs ∧ w.heap.size ≤ g ∧ w.heap.size ≤ r ∧ Below w.heap.size w w'
theorem info2 : (Tryz.prog.info? 2).map (fun i => (i.zero,i.size,i.bytes)) = some (some (.int .i64 0),1,8):=by kernel_rfl
theorem iv_one (l : List Int) : ∀ u ∈ l.map (Value.int .i64),u.oneCell' = true:=by
 intro u hu
 obtain ⟨x,_,rfl⟩:=List.mem_map.1 hu
 rfl
set_option maxRecDepth 100000 in
set_option maxHeartbeats 1000000 in
theorem iclone_some (b o n c : Nat) (zs : List Int) (w : World) (hr : Row w (some ⟨b,o,none⟩) n (zs.map (Value.int .i64))) (hn : n ≤ 1048576) (hp : 1 ≤ n) :
   Calls Tryz.prog 244 #[.slice (some ⟨b,o,none⟩) n c] w (RNewInts w zs):=by
 obtain ⟨i0,hi,hz0,hz1,hz2⟩:=info_parts info2
 have hq:=fun w => Lib.run_eql_slice_nil (P:=Tryz.prog) w 125 2 (some ⟨b,o,none⟩) n c 0 0 Tryz.underlying125
 have hone:=iv_one zs
 have hm1 : n ≤ maxLen:=by unfold maxLen; omega
 have hm2 : n * 8 ≤ 140737488355328:=by omega
 have HL:=Lib.hid (show zs.length = n by simpa using hr.1)
 have HR:=Lib.hid hr; clear hr
 have hb0:=(Below.refl w.heap.size w).alloc (Nat.le_refl _) (.cells #[] 2)
 have HB:=Lib.hid hb0
 have HP:=Lib.hid hp; clear hp
 go_enter Tryz.func244,Tryz.ntmps244
 go_wp2_with (at_builtin; refine wpList_append_fresh rfl (.tmp 5) (.tmp 6) 125 rfl w.heap.size 2 i0 (.int .i64 0) 8 Tryz.underlying125 hi hz0 hz1 hz2 rfl _ _ rfl (owns_empty w 2) (some ⟨b,o,none⟩) n c (zs.map (Value.int .i64)) rfl (HR.out.below HB.out) (by simp) hone hm1 hm2 HB.out.size ?_)
 intro g c1 w2 hgB hnc hcm1 hrow hown hb2
 have HO:=Lib.hid (Ints.of_own hown)
 have HB2:=Lib.hid (HB.out.trans hb2)
 have HG:=Lib.hid hgB
 clear hrow hown hb2 hb0 hgB
 go_wp2
 go_ret
 exact ⟨_,rfl,g,c1,by rw [HL.out]; rfl,HO.out.1,HG.out,by rw [HL.out]; exact hnc,hcm1,HB2.out⟩
set_option maxRecDepth 100000 in
set_option maxHeartbeats 1000000 in
theorem gcells_any {w g r R W zs} (h : GridIs w g r R W zs) : Calls Tryz.prog 221 #[.pointer (some ⟨g,0,none⟩)] w (RNewInts w zs):=by
 obtain ⟨cap,c0,c1,c2,c3,c4⟩:=h.cells
 have hs:=h.size
 have K:=Lib.hid (iclone_some r 0 zs.length cap zs w h.row.toRow (by omega) (by omega))
 clear h hs
 generalize zs.length = n at *
 go_enter Tryz.func221,Tryz.ntmps221
 go_wp2_with (go_at_call 244; ((with_reducible refine K.out.mono ?_)); rintro e w' ⟨v,rfl,hv⟩)
 have HV:=Lib.hid hv; clear hv
 go_wp2
 go_ret
 exact ⟨v,rfl,HV.out⟩
theorem NewInts.grid {w w1 : World} {zs : List Int} {v : Value} (h : NewInts w zs v w1) {R W : Nat} (hl : zs.length = R * W) (r1 : 1 ≤ R) (r8 : R ≤ 8) (w1' : 1 ≤ W) (w8 : W ≤ 128) :
   ∃ r : Nat,GridIs (w1.alloc (.cells #[.int .i64 R,.int .i64 W,v] 338)) w1.heap.size r R W zs ∧ w.heap.size ≤ w1.heap.size ∧ w.heap.size ≤ r ∧ Below w.heap.size w (w1.alloc (.cells #[.int .i64 R,.int .i64 W,v] 338)):=by
 obtain ⟨g,c,rfl,hi,hg,hc,hc2,hb⟩:=h
 have hb':=hb.alloc hb.size (.cells #[.int .i64 R,.int .i64 W,.slice (some ⟨g,0,none⟩) zs.length c] 338)
 exact ⟨g,⟨⟨c,heap_alloc_new _ _,hc,hc2⟩,hi.upd (S:=fun _ => False) ((Upd.refl _ _).alloc _) id,hl,r1,r8,w1',w8⟩,hb.size,hg,hb'⟩
theorem NewInts.below {w w1 : World} {zs : List Int} {v : Value} (h : NewInts w.drew zs v w1) : Below w.heap.size w w1:=by
 obtain ⟨g,c,rfl,hi,hg,hc,hc2,hb⟩:=h
 exact ⟨hb.os,hb.tape,hb.output,hb.size,hb.block⟩
theorem keep3 {w w1 : World} {g a b c : Nat} {x y z : Value} (hb : Below w.heap.size w w1) (hg : g < w.heap.size) (h0 : w.cell? ⟨g,a,none⟩ = some x) (h1 : w.cell? ⟨g,b,none⟩ = some y) (h2 : w.cell? ⟨g,c,none⟩ = some z) :
   w1.cell? ⟨g,a,none⟩ = some x ∧ w1.cell? ⟨g,b,none⟩ = some y ∧ w1.cell? ⟨g,c,none⟩ = some z:=
 ⟨(hb.cell (p:=⟨g,a,none⟩) hg).trans h0,(hb.cell (p:=⟨g,b,none⟩) hg).trans h1,(hb.cell (p:=⟨g,c,none⟩) hg).trans h2⟩
set_option maxRecDepth 100000 in
set_option maxHeartbeats 1000000 in
theorem gcopy_any {w g r R W zs} (h : GridIs w g r R W zs) : Calls Tryz.prog 232 #[.pointer (some ⟨g,0,none⟩)] w (NewGrid w R W zs):=by
 obtain ⟨cap,c0,c1,c2,c3,c4⟩:=h.cells
 have hs:=h.size
 have hl:=Lib.hid h.len
 have hd:=Lib.hid (And.intro h.r1 (And.intro h.r8 (And.intro h.w1 h.w8)))
 have hg:=h.glt
 have K:=Lib.hid (fun w1 (hb : Below w.heap.size w w1) => iclone_some r 0 zs.length cap zs w1 ((h.row.toRow).below hb) (by omega) (by omega))
 have hS : w.cell? ⟨g,0,none⟩ = some (.int .i64 R) ∧ w.cell? ⟨g,1,none⟩ = some (.int .i64 W) ∧ w.cell? ⟨g,2,none⟩ = some (.slice (some ⟨r,0,none⟩) zs.length cap):=⟨c0,c1,c2⟩
 clear h hs
 generalize hn : zs.length = n at *
 have HN:=Lib.hid hn; clear hn
 have hl':=Lib.hid (show zs.length = R * W by rw [HN.out]; exact hl.out)
 go_enter Tryz.func232,Tryz.ntmps232
 go_wp2_with fail
 go_region_held3 (fun w' => w'.cell? ⟨g,0,none⟩ = some (.int .i64 R) ∧ w'.cell? ⟨g,1,none⟩ = some (.int .i64 W) ∧ w'.cell? ⟨g,2,none⟩ = some (.slice (some ⟨r,0,none⟩) n cap))
   (first | assumption | exact ⟨cell_make hS1.1 _,cell_make hS1.2.1 _,cell_make hS1.2.2 _⟩)
   (first | (go_at_call 244; ((with_reducible refine (K.out _ (Below.refl _ _).drew).mono ?_)); rintro e w1 ⟨v,rfl,hv⟩; (have HV:=Lib.hid hv); (obtain ⟨gg,cc,rfl,hrest⟩:=hv); clear hrest; (have hS1:=keep3 HV.out.below hg c0 c1 c2)))
 go_wp2
 go_ret
 obtain ⟨r',h1,h2,h3,h4⟩:=HV.out.grid hl'.out hd.out.1 hd.out.2.1 hd.out.2.2.1 hd.out.2.2.2
 exact ⟨w1.heap.size,r',rfl,h1,h2,h3,⟨h4.os,h4.tape,h4.output,h4.size,h4.block⟩⟩
end Go.Proofs.YtejaocnhekjfiaaGreatDoor
namespace Go.Proofs.YtejaocnhekjfiaaGreatDoor
open Go.RowKit
set_option linter.unusedVariables false
theorem made_one (z : Value) (n : Nat) : madeCells #[z] n = Array.replicate n z:=by
 apply Array.ext'
 rw [toList_madeCells_one,Array.toList_replicate]
theorem mk_i64 (n : Nat) (hn : n ≤ 1048576) (w : World) : (Instr.makeSlice 125 (.int .i64 (n : Int)) (.int .i64 (n : Int))).run Tryz.prog w = .ok (.slice (some ⟨w.heap.size,0,none⟩) n n) (w.alloc (.cells (Array.replicate n (Value.int .i64 0)) 2)):=by
 have h:=run_make_row' (P:=Tryz.prog) 125 2 (.int .i64 0) 8 Tryz.underlying125 info2 rfl .i64 .i64 n (by omega) (by omega) w
 rwa [made_one] at h
theorem info3 : (Tryz.prog.info? 3).map (fun i => (i.zero,i.size,i.bytes)) = some (some (.int .i64 0),1,8):=by kernel_rfl
theorem mk_int (n : Nat) (hn : n ≤ 1048576) (w : World) : (Instr.makeSlice 59 (.int .i64 (n : Int)) (.int .i64 (n : Int))).run Tryz.prog w = .ok (.slice (some ⟨w.heap.size,0,none⟩) n n) (w.alloc (.cells (Array.replicate n (Value.int .i64 0)) 3)):=by
 have h:=run_make_row' (P:=Tryz.prog) 59 3 (.int .i64 0) 8 Tryz.underlying59 info3 rfl .i64 .i64 n (by omega) (by omega) w
 rwa [made_one] at h
theorem Ints.new (w : World) (n : Nat) : Ints (w.alloc (.cells (Array.replicate n (Value.int .i64 0)) 2)) w.heap.size (List.replicate n 0):=
 Ints.lit (l:=List.replicate n (Value.int .i64 0)) (by rw [List.toArray_replicate]; exact heap_alloc_new _ _) (by simp)
set_option maxRecDepth 100000 in
set_option maxHeartbeats 1000000 in
theorem gnew_any (w : World) (R W : Nat) (r1 : 1 ≤ R) (r8 : R ≤ 8) (w1 : 1 ≤ W) (w8 : W ≤ 128) :
   Calls Tryz.prog 166 #[.int .i64 R,.int .i64 W] w (NewGrid w R W (List.replicate (R * W) 0)):=by
 have hq : R * W ≤ 8 * 128:=Nat.mul_le_mul r8 w8
 obtain ⟨q,hq1⟩ : ∃ q : Nat,R * W = q:=⟨_,rfl⟩
 have hm : (R : Int) * (W : Int) = (q : Int):=by rw [← hq1]; simp
 have m1 : max (R : Int) 0 = R:=by omega
 have m2 : min (R : Int) 8 = R:=by omega
 have m3 : max (W : Int) 0 = W:=by omega
 have m4 : min (W : Int) 128 = W:=by omega
 have b1 : (q : Int) ≤ 1024:=by omega
 have HD:=Lib.hid (And.intro r1 (And.intro r8 (And.intro w1 w8)))
 have HQ:=Lib.hid hq1
 have hmk:=mk_i64 q (by omega)
 clear hq1 hq r1 r8 w1 w8
 go_enter Tryz.func166,Tryz.ntmps166
 go_wp2_with fail
 go_ret
 have HN : NewInts w (List.replicate q 0) (.slice (some ⟨w.heap.size,0,none⟩) q q) (w.alloc (.cells (Array.replicate q (Value.int .i64 0)) 2)):=
   ⟨_,q,by simp,Ints.new w q,Nat.le_refl _,by simp,by omega,(Below.refl _ _).alloc (Nat.le_refl _) _⟩
 obtain ⟨r',h1,h2,h3,h4⟩:=HN.grid (R:=R) (W:=W) (by simp [HQ.out]) HD.out.1 HD.out.2.1 HD.out.2.2.1 HD.out.2.2.2
 rw [HQ.out]
 simp only [World.size_alloc] at h1 h2
 exact ⟨_,r',rfl,h1,h2,h3,h4⟩
end Go.Proofs.YtejaocnhekjfiaaGreatDoor
namespace Go.Proofs
open Go.Shelf
def Tryz.lays169_ren : Go.Shelf.Ren:=⟨fun | 169 => 62 | n => n,fun | 70 => 135 | 9 => 9 | 0 => 0 | 72 => 137 | 37 => 92 | 127 => 222 | 3 => 3 | 5 => 5 | n => n,fun | n => n⟩
theorem Tryz.lays169 : Go.Proofs.Lays.n169 Tryz.prog Tryz.lays169_ren:={
 mixed:=by kernel_rfl
 f169:=Tryz.func62.trans (congrArg some (by kernel_rfl))
 t0:=Tryz.underlying0
 a0:=Tryz.isAgg0
 z0:=Tryz.sizeOf0
 v0:=Tryz.zeroValue0
 t3:=Tryz.underlying3
 a3:=Tryz.isAgg3
 z3:=Tryz.sizeOf3
 v3:=Tryz.zeroValue3
 t9:=Tryz.underlying9
 a9:=Tryz.isAgg9
 z9:=Tryz.sizeOf9
 v9:=Tryz.zeroValue9
 t37:=Tryz.underlying92
 a37:=Tryz.isAgg92
 z37:=Tryz.sizeOf92
 v37:=Tryz.zeroValue92
 t70:=Tryz.underlying135
 a70:=Tryz.isAgg135
 z70:=Tryz.sizeOf135
 v70:=Tryz.zeroValue135
 t72:=Tryz.underlying137
 a72:=Tryz.isAgg137
 z72:=Tryz.sizeOf137
 v72:=Tryz.zeroValue137
 t127:=Tryz.underlying222
 a127:=Tryz.isAgg222
 z127:=Tryz.sizeOf222
 v127:=Tryz.zeroValue222 }
theorem Tryz.Builder_Extra_169 : Builder.Extra Tryz.prog Tryz.lays169_ren:={
 sizeBuilder:=by kernel_rfl
 liesBuilder:=by kernel_rfl
 t5:=Tryz.underlying5
 a5:=Tryz.isAgg5
 z5:=Tryz.sizeOf5
 v5:=Tryz.zeroValue5
 infoByte:=by kernel_rfl
 cellsByte:=by kernel_rfl
 sizeByte:=by kernel_rfl
 neB5:=by decide }
open Go.RowKit in
theorem Tryz.Builder_String_any (B b : Nat) (l : List UInt8) (w : World) (h : Lib.IsBuilder 137 5 B b (Lib.byteCells l) w) (hBw : B ≤ w.heap.size) :
   Calls Tryz.prog 62 #[.pointer (some ⟨b,0,none⟩)] w fun e w' => e = .returned (.string ⟨l.toArray⟩) ∧ Below B w w':=Any.Builder_String_any Tryz.lays169 Tryz.Builder_Extra_169 B b l w h hBw
def Tryz.lays134_ren : Go.Shelf.Ren:=⟨fun | 134 => 152 | 129 => 162 | n => n,fun | 53 => 22 | 3 => 3 | 4 => 4 | 46 => 48 | 5 => 5 | 9 => 9 | n => n,fun | n => n⟩
theorem Tryz.lays134 : Go.Proofs.Lays.n134 Tryz.prog Tryz.lays134_ren:={
 mixed:=by kernel_rfl
 f129:=Tryz.func162.trans (congrArg some (by kernel_rfl))
 f134:=Tryz.func152.trans (congrArg some (by kernel_rfl))
 t3:=Tryz.underlying3
 a3:=Tryz.isAgg3
 z3:=Tryz.sizeOf3
 v3:=Tryz.zeroValue3
 t4:=Tryz.underlying4
 a4:=Tryz.isAgg4
 z4:=Tryz.sizeOf4
 v4:=Tryz.zeroValue4
 t5:=Tryz.underlying5
 a5:=Tryz.isAgg5
 z5:=Tryz.sizeOf5
 v5:=Tryz.zeroValue5
 t9:=Tryz.underlying9
 a9:=Tryz.isAgg9
 z9:=Tryz.sizeOf9
 v9:=Tryz.zeroValue9
 t46:=Tryz.underlying48
 a46:=Tryz.isAgg48
 z46:=Tryz.sizeOf48
 v46:=Tryz.zeroValue48
 t53:=Tryz.underlying22
 a53:=Tryz.isAgg22
 z53:=Tryz.sizeOf22
 v53:=Tryz.zeroValue22 }
theorem Tryz.bits_LeadingZeros64 (x : Int) (w : World) (h0 : 0 ≤ x) (h1 : x ≤ 18446744073709551615) :
   Calls Tryz.prog 152 #[.int .u64 x] w fun e w' => e = .returned (.int .i64 (64 - (Lib.bitLen x.toNat : Int))) ∧ w' = w:=Any.bits_LeadingZeros64 Tryz.lays134 x w h0 h1
def Tryz.lays137_ren : Go.Shelf.Ren:=⟨fun | 137 => 69 | 217 => 116 | 266 => 159 | n => n,fun | 9 => 9 | 5 => 5 | 3 => 3 | n => n,fun | n => n⟩
theorem Tryz.lays137 : Go.Proofs.Lays.n137 Tryz.prog Tryz.lays137_ren:={
 mixed:=by kernel_rfl
 f137:=Tryz.func69.trans (congrArg some (by kernel_rfl))
 f217:=Tryz.func116.trans (congrArg some (by kernel_rfl))
 f266:=Tryz.func159.trans (congrArg some (by kernel_rfl))
 t3:=Tryz.underlying3
 a3:=Tryz.isAgg3
 z3:=Tryz.sizeOf3
 v3:=Tryz.zeroValue3
 t5:=Tryz.underlying5
 a5:=Tryz.isAgg5
 z5:=Tryz.sizeOf5
 v5:=Tryz.zeroValue5
 t9:=Tryz.underlying9
 a9:=Tryz.isAgg9
 z9:=Tryz.sizeOf9
 v9:=Tryz.zeroValue9 }
open Go.RowKit in
theorem Tryz.strings_IndexByte (s : ByteArray) (c : Int) (w : World) :
   Calls Tryz.prog 69 #[.string s,.int .u8 c] w fun e w' => e = .returned (.int .i64 (Lib.indexByte s.data.toList c.toNat.toUInt8)) ∧ w' = w:=Any.strings_IndexByte Tryz.lays137 s c w
def Tryz.lays283_ren : Go.Shelf.Ren:=⟨fun | 283 => 120 | n => n,fun | 3 => 3 | 9 => 9 | 4 => 4 | n => n,fun | n => n⟩
theorem Tryz.lays283 : Go.Proofs.Lays.n283 Tryz.prog Tryz.lays283_ren:={
 mixed:=by kernel_rfl
 f283:=Tryz.func120.trans (congrArg some (by kernel_rfl))
 t3:=Tryz.underlying3
 a3:=Tryz.isAgg3
 z3:=Tryz.sizeOf3
 v3:=Tryz.zeroValue3
 t4:=Tryz.underlying4
 a4:=Tryz.isAgg4
 z4:=Tryz.sizeOf4
 v4:=Tryz.zeroValue4
 t9:=Tryz.underlying9
 a9:=Tryz.isAgg9
 z9:=Tryz.sizeOf9
 v9:=Tryz.zeroValue9 }
open Go.Lib in
theorem Tryz.internal_strconv_small (i : Nat) (h : i < 100) (w : World) :
   Calls Tryz.prog 120 #[.int .i64 i] w fun e w' => e = .returned (.string ⟨(Lib.decDigits i).toArray⟩) ∧ w' = w:=Any.internal_strconv_small Tryz.lays283 i h w
def Tryz.laysM246_ren : Go.Shelf.Ren:=⟨fun | 246 => 75 | 283 => 120 | 284 => 121 | 285 => 122 | 286 => 123 | 129 => 162 | 317 => 161 | 318 => 163 | 319 => 164 | 320 => 165 | 337 => 202 | 338 => 203 | n => n,fun | 2 => 2 | 3 => 3 | 9 => 9 | 4 => 4 | 171 => 229 | 0 => 0 | 53 => 22 | 37 => 92 | 5 => 5 | 173 => 232 | 212 => 288 | 51 => 209 | 20 => 20 | 213 => 289 | 46 => 48 | 232 => 363 | 233 => 364 | n => n,fun | 17 => 4 | 18 => 6 | 19 => 7 | n => n⟩
def Tryz.laysM243_ren : Go.Shelf.Ren:=⟨fun | 243 => 48 | 246 => 75 | 283 => 120 | 284 => 121 | 285 => 122 | 286 => 123 | 129 => 162 | 317 => 161 | 318 => 163 | 319 => 164 | 320 => 165 | 337 => 202 | 338 => 203 | n => n,fun | 3 => 3 | 9 => 9 | 2 => 2 | 4 => 4 | 171 => 229 | 0 => 0 | 53 => 22 | 37 => 92 | 5 => 5 | 173 => 232 | 212 => 288 | 51 => 209 | 20 => 20 | 213 => 289 | 46 => 48 | 232 => 363 | 233 => 364 | n => n,fun | 17 => 4 | 18 => 6 | 19 => 7 | n => n⟩
def Tryz.laysM171_ren : Go.Shelf.Ren:=⟨fun | 171 => 33 | 243 => 48 | 246 => 75 | 283 => 120 | 284 => 121 | 285 => 122 | 286 => 123 | 129 => 162 | 317 => 161 | 318 => 163 | 319 => 164 | 320 => 165 | 337 => 202 | 338 => 203 | n => n,fun | 3 => 3 | 9 => 9 | 2 => 2 | 4 => 4 | 171 => 229 | 0 => 0 | 53 => 22 | 37 => 92 | 5 => 5 | 173 => 232 | 212 => 288 | 51 => 209 | 20 => 20 | 213 => 289 | 46 => 48 | 232 => 363 | 233 => 364 | n => n,fun | 17 => 4 | 18 => 6 | 19 => 7 | n => n⟩
def Tryz.lays171_ren : Go.Shelf.Ren:=⟨fun | 171 => 33 | 243 => 48 | 246 => 75 | 283 => 120 | 284 => 121 | 285 => 122 | 286 => 123 | 129 => 162 | 317 => 161 | 318 => 163 | 319 => 164 | 320 => 165 | 337 => 202 | 338 => 203 | n => n,fun | 3 => 3 | 9 => 9 | 2 => 2 | 4 => 4 | 171 => 229 | 0 => 0 | 53 => 22 | 37 => 92 | 5 => 5 | 173 => 232 | 212 => 288 | 51 => 209 | 20 => 20 | 213 => 289 | 46 => 48 | 232 => 363 | 233 => 364 | n => n,fun | 17 => 4 | 18 => 6 | 19 => 7 | n => n⟩
theorem Tryz.lays171 : Go.Proofs.Lays.n171 Tryz.prog Tryz.lays171_ren:={
 mixed:=by kernel_rfl
 f129:=Tryz.func162.trans (congrArg some (by kernel_rfl))
 f171:=Tryz.func33.trans (congrArg some (by kernel_rfl))
 f243:=Tryz.func48.trans (congrArg some (by kernel_rfl))
 f246:=Tryz.func75.trans (congrArg some (by kernel_rfl))
 f283:=Tryz.func120.trans (congrArg some (by kernel_rfl))
 f284:=Tryz.func121.trans (congrArg some (by kernel_rfl))
 f285:=Tryz.func122.trans (congrArg some (by kernel_rfl))
 f286:=Tryz.func123.trans (congrArg some (by kernel_rfl))
 f317:=Tryz.func161.trans (congrArg some (by kernel_rfl))
 f318:=Tryz.func163.trans (congrArg some (by kernel_rfl))
 f319:=Tryz.func164.trans (congrArg some (by kernel_rfl))
 f320:=Tryz.func165.trans (congrArg some (by kernel_rfl))
 f337:=Tryz.func202.trans (congrArg some (by kernel_rfl))
 f338:=Tryz.func203.trans (congrArg some (by kernel_rfl))
 t0:=Tryz.underlying0
 a0:=Tryz.isAgg0
 z0:=Tryz.sizeOf0
 v0:=Tryz.zeroValue0
 t2:=Tryz.underlying2
 a2:=Tryz.isAgg2
 z2:=Tryz.sizeOf2
 v2:=Tryz.zeroValue2
 t3:=Tryz.underlying3
 a3:=Tryz.isAgg3
 z3:=Tryz.sizeOf3
 v3:=Tryz.zeroValue3
 t4:=Tryz.underlying4
 a4:=Tryz.isAgg4
 z4:=Tryz.sizeOf4
 v4:=Tryz.zeroValue4
 t5:=Tryz.underlying5
 a5:=Tryz.isAgg5
 z5:=Tryz.sizeOf5
 v5:=Tryz.zeroValue5
 t9:=Tryz.underlying9
 a9:=Tryz.isAgg9
 z9:=Tryz.sizeOf9
 v9:=Tryz.zeroValue9
 t20:=Tryz.underlying20
 a20:=Tryz.isAgg20
 z20:=Tryz.sizeOf20
 v20:=Tryz.zeroValue20
 t37:=Tryz.underlying92
 a37:=Tryz.isAgg92
 z37:=Tryz.sizeOf92
 v37:=Tryz.zeroValue92
 t46:=Tryz.underlying48
 a46:=Tryz.isAgg48
 z46:=Tryz.sizeOf48
 v46:=Tryz.zeroValue48
 t51:=Tryz.underlying209
 a51:=Tryz.isAgg209
 z51:=Tryz.sizeOf209
 v51:=Tryz.zeroValue209
 t53:=Tryz.underlying22
 a53:=Tryz.isAgg22
 z53:=Tryz.sizeOf22
 v53:=Tryz.zeroValue22
 t171:=Tryz.underlying229
 a171:=Tryz.isAgg229
 z171:=Tryz.sizeOf229
 v171:=Tryz.zeroValue229
 t173:=Tryz.underlying232
 a173:=Tryz.isAgg232
 z173:=Tryz.sizeOf232
 v173:=Tryz.zeroValue232
 t212:=Tryz.underlying288
 a212:=Tryz.isAgg288
 z212:=Tryz.sizeOf288
 v212:=Tryz.zeroValue288
 t213:=Tryz.underlying289
 a213:=Tryz.isAgg289
 z213:=Tryz.sizeOf289
 t232:=Tryz.underlying363
 a232:=Tryz.isAgg363
 z232:=Tryz.sizeOf363
 v232:=Tryz.zeroValue363
 t233:=Tryz.underlying364
 a233:=Tryz.isAgg364
 z233:=Tryz.sizeOf364
 v233:=Tryz.zeroValue364
 g17:=by kernel_rfl
 g18:=by kernel_rfl
 g19:=by kernel_rfl }
open Go.RowKit Go.Sort Go.Lib in
theorem Tryz.strconv_Itoa_small (i : Nat) (hi : i < 100) (w : World) :
   Calls Tryz.prog 33 #[.int .i64 i] w fun e w' => e = .returned (.string ⟨(Lib.decDigits i).toArray⟩) ∧ w' = w:=Any.strconv_Itoa_small Tryz.lays171 i hi w
def Tryz.laysM173_ren : Go.Shelf.Ren:=⟨fun | 173 => 57 | 246 => 75 | 283 => 120 | 284 => 121 | 285 => 122 | 286 => 123 | 129 => 162 | 317 => 161 | 318 => 163 | 319 => 164 | 320 => 165 | 337 => 202 | 338 => 203 | n => n,fun | 2 => 2 | 3 => 3 | 9 => 9 | 4 => 4 | 171 => 229 | 0 => 0 | 53 => 22 | 37 => 92 | 5 => 5 | 173 => 232 | 212 => 288 | 51 => 209 | 20 => 20 | 213 => 289 | 46 => 48 | 232 => 363 | 233 => 364 | n => n,fun | 17 => 4 | 18 => 6 | 19 => 7 | n => n⟩
theorem Tryz.laysM173 : Go.Proofs.LaysM.n173 Tryz.prog Tryz.laysM173_ren:={
 mixed:=by kernel_rfl
 f129:=Tryz.func162.trans (congrArg some (by kernel_rfl))
 f173:=Tryz.func57.trans (congrArg some (by kernel_rfl))
 f246:=Tryz.func75.trans (congrArg some (by kernel_rfl))
 f283:=Tryz.func120.trans (congrArg some (by kernel_rfl))
 f284:=Tryz.func121.trans (congrArg some (by kernel_rfl))
 f285:=Tryz.func122.trans (congrArg some (by kernel_rfl))
 f286:=Tryz.func123.trans (congrArg some (by kernel_rfl))
 f317:=Tryz.func161.trans (congrArg some (by kernel_rfl))
 f318:=Tryz.func163.trans (congrArg some (by kernel_rfl))
 f319:=Tryz.func164.trans (congrArg some (by kernel_rfl))
 f320:=Tryz.func165.trans (congrArg some (by kernel_rfl))
 f337:=Tryz.func202.trans (congrArg some (by kernel_rfl))
 f338:=Tryz.func203.trans (congrArg some (by kernel_rfl))
 t0:=Tryz.underlying0
 a0:=Tryz.isAgg0
 z0:=Tryz.sizeOf0
 v0:=Tryz.zeroValue0
 t2:=Tryz.underlying2
 a2:=Tryz.isAgg2
 z2:=Tryz.sizeOf2
 v2:=Tryz.zeroValue2
 t3:=Tryz.underlying3
 a3:=Tryz.isAgg3
 z3:=Tryz.sizeOf3
 v3:=Tryz.zeroValue3
 t4:=Tryz.underlying4
 a4:=Tryz.isAgg4
 z4:=Tryz.sizeOf4
 v4:=Tryz.zeroValue4
 t5:=Tryz.underlying5
 a5:=Tryz.isAgg5
 z5:=Tryz.sizeOf5
 v5:=Tryz.zeroValue5
 t9:=Tryz.underlying9
 a9:=Tryz.isAgg9
 z9:=Tryz.sizeOf9
 v9:=Tryz.zeroValue9
 t20:=Tryz.underlying20
 a20:=Tryz.isAgg20
 z20:=Tryz.sizeOf20
 v20:=Tryz.zeroValue20
 t37:=Tryz.underlying92
 a37:=Tryz.isAgg92
 z37:=Tryz.sizeOf92
 v37:=Tryz.zeroValue92
 t46:=Tryz.underlying48
 a46:=Tryz.isAgg48
 z46:=Tryz.sizeOf48
 v46:=Tryz.zeroValue48
 t51:=Tryz.underlying209
 a51:=Tryz.isAgg209
 z51:=Tryz.sizeOf209
 v51:=Tryz.zeroValue209
 t53:=Tryz.underlying22
 a53:=Tryz.isAgg22
 z53:=Tryz.sizeOf22
 v53:=Tryz.zeroValue22
 t171:=Tryz.underlying229
 a171:=Tryz.isAgg229
 z171:=Tryz.sizeOf229
 v171:=Tryz.zeroValue229
 t173:=Tryz.underlying232
 a173:=Tryz.isAgg232
 z173:=Tryz.sizeOf232
 v173:=Tryz.zeroValue232
 t212:=Tryz.underlying288
 a212:=Tryz.isAgg288
 z212:=Tryz.sizeOf288
 v212:=Tryz.zeroValue288
 t213:=Tryz.underlying289
 a213:=Tryz.isAgg289
 z213:=Tryz.sizeOf289
 t232:=Tryz.underlying363
 a232:=Tryz.isAgg363
 z232:=Tryz.sizeOf363
 v232:=Tryz.zeroValue363
 t233:=Tryz.underlying364
 a233:=Tryz.isAgg364
 z233:=Tryz.sizeOf364
 v233:=Tryz.zeroValue364
 g17:=by kernel_rfl
 g18:=by kernel_rfl
 g19:=by kernel_rfl
 i0:=by kernel_rfl
 i2:=by kernel_rfl
 i3:=by kernel_rfl
 i4:=by kernel_rfl
 i5:=by kernel_rfl
 i9:=by kernel_rfl
 i20:=by kernel_rfl
 i37:=by kernel_rfl
 i46:=by kernel_rfl
 i51:=by kernel_rfl
 i53:=by kernel_rfl
 i171:=by kernel_rfl
 i173:=by kernel_rfl
 i212:=by kernel_rfl
 i232:=by kernel_rfl
 i233:=by kernel_rfl
 m17:=by kernel_rfl
 m18:=by kernel_rfl
 m19:=by kernel_rfl }
open Go.RowKit Go.Sort Go.Lib in
theorem Tryz.strconv_FormatInt_10 (n : Int) (h0 : -9223372036854775808 ≤ n) (h1 : n ≤ 9223372036854775807) (w : World) (htab : Lib.TabIs Tryz.prog w "internal/strconv.uint64pow10" .u64 Lib.pow10Tab) :
   Calls Tryz.prog 57 #[.int .i64 n,.int .i64 10] w fun e w' => e = .returned (.string ⟨(Lib.itoa n).toArray⟩) ∧ ∃ k os,w' = grow (w.drewN k) os:=Any.strconv_FormatInt_10 Tryz.laysM173 n h0 h1 w htab
def Tryz.laysC245_ren : Go.Shelf.Ren:=⟨fun | 245 => 201 | 279 => 228 | 280 => 229 | 281 => 230 | 282 => 231 | 316 => 249 | 171 => 33 | 205 => 250 | 243 => 48 | 246 => 75 | 283 => 120 | 284 => 121 | 285 => 122 | 286 => 123 | 129 => 162 | 317 => 161 | 318 => 163 | 319 => 164 | 320 => 165 | 337 => 202 | 338 => 203 | n => n,fun | 9 => 9 | 3 => 3 | 75 => 156 | 167 => 357 | 4 => 4 | 168 => 360 | 210 => 381 | 37 => 92 | 0 => 0 | 127 => 222 | 145 => 391 | 143 => 389 | 2 => 2 | 171 => 229 | 53 => 22 | 5 => 5 | 173 => 232 | 212 => 288 | 51 => 209 | 20 => 20 | 213 => 289 | 46 => 48 | 232 => 363 | 233 => 364 | 80 => 80 | n => n,fun | 15 => 8 | 16 => 9 | 17 => 4 | 18 => 6 | 19 => 7 | n => n⟩
def Tryz.laysC174_ren : Go.Shelf.Ren:=⟨fun | 174 => 160 | 247 => 200 | 245 => 201 | 287 => 227 | 279 => 228 | 280 => 229 | 281 => 230 | 282 => 231 | 321 => 247 | 322 => 248 | 316 => 249 | 171 => 33 | 205 => 250 | 243 => 48 | 246 => 75 | 283 => 120 | 284 => 121 | 285 => 122 | 286 => 123 | 129 => 162 | 317 => 161 | 318 => 163 | 319 => 164 | 320 => 165 | 337 => 202 | 338 => 203 | n => n,fun | 9 => 9 | 3 => 3 | 2 => 2 | 75 => 156 | 85 => 285 | 4 => 4 | 167 => 357 | 5 => 5 | 53 => 22 | 175 => 358 | 46 => 48 | 168 => 360 | 37 => 92 | 0 => 0 | 210 => 381 | 21 => 21 | 127 => 222 | 145 => 391 | 143 => 389 | 171 => 229 | 173 => 232 | 212 => 288 | 51 => 209 | 20 => 20 | 213 => 289 | 232 => 363 | 233 => 364 | 80 => 80 | n => n,fun | 15 => 8 | 16 => 9 | 17 => 4 | 18 => 6 | 19 => 7 | n => n⟩
theorem Tryz.laysC174 : Go.Proofs.LaysC.n174 Tryz.prog Tryz.laysC174_ren:={
 mixed:=by kernel_rfl
 f129:=Tryz.func162.trans (congrArg some (by kernel_rfl))
 f171:=Tryz.func33.trans (congrArg some (by kernel_rfl))
 f174:=Tryz.func160.trans (congrArg some (by kernel_rfl))
 f205:=Tryz.func250.trans (congrArg some (by kernel_rfl))
 f243:=Tryz.func48.trans (congrArg some (by kernel_rfl))
 f245:=Tryz.func201.trans (congrArg some (by kernel_rfl))
 f246:=Tryz.func75.trans (congrArg some (by kernel_rfl))
 f247:=Tryz.func200.trans (congrArg some (by kernel_rfl))
 f279:=Tryz.func228.trans (congrArg some (by kernel_rfl))
 f280:=Tryz.func229.trans (congrArg some (by kernel_rfl))
 f281:=Tryz.func230.trans (congrArg some (by kernel_rfl))
 f282:=Tryz.func231.trans (congrArg some (by kernel_rfl))
 f283:=Tryz.func120.trans (congrArg some (by kernel_rfl))
 f284:=Tryz.func121.trans (congrArg some (by kernel_rfl))
 f285:=Tryz.func122.trans (congrArg some (by kernel_rfl))
 f286:=Tryz.func123.trans (congrArg some (by kernel_rfl))
 f287:=Tryz.func227.trans (congrArg some (by kernel_rfl))
 f316:=Tryz.func249.trans (congrArg some (by kernel_rfl))
 f317:=Tryz.func161.trans (congrArg some (by kernel_rfl))
 f318:=Tryz.func163.trans (congrArg some (by kernel_rfl))
 f319:=Tryz.func164.trans (congrArg some (by kernel_rfl))
 f320:=Tryz.func165.trans (congrArg some (by kernel_rfl))
 f321:=Tryz.func247.trans (congrArg some (by kernel_rfl))
 f322:=Tryz.func248.trans (congrArg some (by kernel_rfl))
 f337:=Tryz.func202.trans (congrArg some (by kernel_rfl))
 f338:=Tryz.func203.trans (congrArg some (by kernel_rfl))
 t0:=Tryz.underlying0
 a0:=Tryz.isAgg0
 z0:=Tryz.sizeOf0
 v0:=Tryz.zeroValue0
 t2:=Tryz.underlying2
 a2:=Tryz.isAgg2
 z2:=Tryz.sizeOf2
 v2:=Tryz.zeroValue2
 t3:=Tryz.underlying3
 a3:=Tryz.isAgg3
 z3:=Tryz.sizeOf3
 v3:=Tryz.zeroValue3
 t4:=Tryz.underlying4
 a4:=Tryz.isAgg4
 z4:=Tryz.sizeOf4
 v4:=Tryz.zeroValue4
 t5:=Tryz.underlying5
 a5:=Tryz.isAgg5
 z5:=Tryz.sizeOf5
 v5:=Tryz.zeroValue5
 t9:=Tryz.underlying9
 a9:=Tryz.isAgg9
 z9:=Tryz.sizeOf9
 v9:=Tryz.zeroValue9
 t20:=Tryz.underlying20
 a20:=Tryz.isAgg20
 z20:=Tryz.sizeOf20
 v20:=Tryz.zeroValue20
 t21:=Tryz.underlying21
 a21:=Tryz.isAgg21
 z21:=Tryz.sizeOf21
 v21:=Tryz.zeroValue21
 t37:=Tryz.underlying92
 a37:=Tryz.isAgg92
 z37:=Tryz.sizeOf92
 v37:=Tryz.zeroValue92
 t46:=Tryz.underlying48
 a46:=Tryz.isAgg48
 z46:=Tryz.sizeOf48
 v46:=Tryz.zeroValue48
 t51:=Tryz.underlying209
 a51:=Tryz.isAgg209
 z51:=Tryz.sizeOf209
 v51:=Tryz.zeroValue209
 t53:=Tryz.underlying22
 a53:=Tryz.isAgg22
 z53:=Tryz.sizeOf22
 v53:=Tryz.zeroValue22
 t75:=Tryz.underlying156
 a75:=Tryz.isAgg156
 z75:=Tryz.sizeOf156
 v75:=Tryz.zeroValue156
 t85:=Tryz.underlying285
 a85:=Tryz.isAgg285
 z85:=Tryz.sizeOf285
 v85:=Tryz.zeroValue285
 t127:=Tryz.underlying222
 a127:=Tryz.isAgg222
 z127:=Tryz.sizeOf222
 v127:=Tryz.zeroValue222
 t143:=Tryz.underlying389
 a143:=Tryz.isAgg389
 z143:=Tryz.sizeOf389
 v143:=Tryz.zeroValue389
 t145:=Tryz.underlying391
 a145:=Tryz.isAgg391
 z145:=Tryz.sizeOf391
 v145:=Tryz.zeroValue391
 t167:=Tryz.underlying357
 a167:=Tryz.isAgg357
 z167:=Tryz.sizeOf357
 v167:=Tryz.zeroValue357
 t168:=Tryz.underlying360
 a168:=Tryz.isAgg360
 z168:=Tryz.sizeOf360
 v168:=Tryz.zeroValue360
 t171:=Tryz.underlying229
 a171:=Tryz.isAgg229
 z171:=Tryz.sizeOf229
 v171:=Tryz.zeroValue229
 t173:=Tryz.underlying232
 a173:=Tryz.isAgg232
 z173:=Tryz.sizeOf232
 v173:=Tryz.zeroValue232
 t175:=Tryz.underlying358
 a175:=Tryz.isAgg358
 z175:=Tryz.sizeOf358
 v175:=Tryz.zeroValue358
 t210:=Tryz.underlying381
 a210:=Tryz.isAgg381
 z210:=Tryz.sizeOf381
 v210:=Tryz.zeroValue381
 t212:=Tryz.underlying288
 a212:=Tryz.isAgg288
 z212:=Tryz.sizeOf288
 v212:=Tryz.zeroValue288
 t213:=Tryz.underlying289
 a213:=Tryz.isAgg289
 z213:=Tryz.sizeOf289
 t232:=Tryz.underlying363
 a232:=Tryz.isAgg363
 z232:=Tryz.sizeOf363
 v232:=Tryz.zeroValue363
 t233:=Tryz.underlying364
 a233:=Tryz.isAgg364
 z233:=Tryz.sizeOf364
 v233:=Tryz.zeroValue364
 g15:=by kernel_rfl
 g16:=by kernel_rfl
 g17:=by kernel_rfl
 g18:=by kernel_rfl
 g19:=by kernel_rfl
 t80:=Tryz.underlying80
 a80:=Tryz.isAgg80
 z80:=Tryz.sizeOf80
 v80:=Tryz.zeroValue80
 i0:=by kernel_rfl
 i2:=by kernel_rfl
 i3:=by kernel_rfl
 i4:=by kernel_rfl
 i5:=by kernel_rfl
 i9:=by kernel_rfl
 i20:=by kernel_rfl
 i21:=by kernel_rfl
 i37:=by kernel_rfl
 i46:=by kernel_rfl
 i51:=by kernel_rfl
 i53:=by kernel_rfl
 i75:=by kernel_rfl
 i80:=by kernel_rfl
 i85:=by kernel_rfl
 i127:=by kernel_rfl
 i143:=by kernel_rfl
 i145:=by kernel_rfl
 i167:=by kernel_rfl
 i168:=by kernel_rfl
 i171:=by kernel_rfl
 i173:=by kernel_rfl
 i175:=by kernel_rfl
 i210:=by kernel_rfl
 i212:=by kernel_rfl
 i232:=by kernel_rfl
 i233:=by kernel_rfl
 m15:=by kernel_rfl
 m16:=by kernel_rfl
 m17:=by kernel_rfl
 m18:=by kernel_rfl
 m19:=by kernel_rfl
 c0:=by kernel_rfl
 c2:=by kernel_rfl
 c3:=by kernel_rfl
 c4:=by kernel_rfl
 c5:=by kernel_rfl
 c9:=by kernel_rfl
 c20:=by kernel_rfl
 c21:=by kernel_rfl
 c37:=by kernel_rfl
 c46:=by kernel_rfl
 c51:=by kernel_rfl
 c53:=by kernel_rfl
 c75:=by kernel_rfl
 c80:=by kernel_rfl
 c85:=by kernel_rfl
 c127:=by kernel_rfl
 c143:=by kernel_rfl
 c145:=by kernel_rfl
 c167:=by kernel_rfl
 c168:=by kernel_rfl
 c171:=by kernel_rfl
 c173:=by kernel_rfl
 c175:=by kernel_rfl
 c210:=by kernel_rfl
 c212:=by kernel_rfl
 c213:=by kernel_rfl
 c232:=by kernel_rfl
 c233:=by kernel_rfl }
open Go.RowKit in
theorem Tryz.strconv_ParseInt_10_at64_ok (s : ByteArray) (hmax : s.size ≤ 9223372036854775806) (v : Int) (h : Lib.parseIntB 64 s.data.toList = .ok v) (w : World) :
   Calls Tryz.prog 160 #[.string s,.int .i64 10,.int .i64 64] w fun e w' => e = .returned (.tuple #[.int .i64 v,.nilIface]) ∧ (w' = w ∨ ∃ t,w' = Lib.bytesWorld w 5 t):=Any.strconv_ParseInt_10_at64_ok Tryz.laysC174 s hmax v h w
open Go.RowKit in
theorem Tryz.strconv_ParseInt_10_at64_range (s : ByteArray) (hlim : s.size ≤ 281474976710656) (h : Lib.parseIntB 64 s.data.toList = .range) (ev : Value) (w : World) (hv : w.cell? ⟨9,0,none⟩ = some ev) (hev : ev = .nilIface ∨ ∃ te pe,ev = .iface te pe) :
   Calls Tryz.prog 160 #[.string s,.int .i64 10,.int .i64 64] w fun e w' => ∃ N,e = .returned (.tuple #[.int .i64 (Lib.intSat 64 s.data.toList),.iface 360 (.pointer (some ⟨N,0,none⟩))]) ∧ w.heap.size ≤ N ∧ w'.heap[N]? = some (.cells #[.string ⟨#[80,97,114,115,101,73,110,116]⟩,.string s,ev] 381 (0,0)) ∧ Below w.heap.size w w':=Any.strconv_ParseInt_10_at64_range Tryz.laysC174 s hlim h ev w hv hev
def Tryz.lays219_ren : Go.Shelf.Ren:=⟨fun | 219 => 158 | 217 => 116 | 225 => 197 | 224 => 198 | 267 => 199 | 266 => 159 | 314 => 226 | n => n,fun | 9 => 9 | 3 => 3 | 4 => 4 | 5 => 5 | 46 => 48 | 146 => 355 | 51 => 209 | n => n,fun | 1 => 5 | n => n⟩
theorem Tryz.lays219 : Go.Proofs.Lays.n219 Tryz.prog Tryz.lays219_ren:={
 mixed:=by kernel_rfl
 f217:=Tryz.func116.trans (congrArg some (by kernel_rfl))
 f219:=Tryz.func158.trans (congrArg some (by kernel_rfl))
 f224:=Tryz.func198.trans (congrArg some (by kernel_rfl))
 f225:=Tryz.func197.trans (congrArg some (by kernel_rfl))
 f266:=Tryz.func159.trans (congrArg some (by kernel_rfl))
 f267:=Tryz.func199.trans (congrArg some (by kernel_rfl))
 f314:=Tryz.func226.trans (congrArg some (by kernel_rfl))
 t3:=Tryz.underlying3
 a3:=Tryz.isAgg3
 z3:=Tryz.sizeOf3
 v3:=Tryz.zeroValue3
 t4:=Tryz.underlying4
 a4:=Tryz.isAgg4
 z4:=Tryz.sizeOf4
 v4:=Tryz.zeroValue4
 t5:=Tryz.underlying5
 a5:=Tryz.isAgg5
 z5:=Tryz.sizeOf5
 v5:=Tryz.zeroValue5
 t9:=Tryz.underlying9
 a9:=Tryz.isAgg9
 z9:=Tryz.sizeOf9
 v9:=Tryz.zeroValue9
 t46:=Tryz.underlying48
 a46:=Tryz.isAgg48
 z46:=Tryz.sizeOf48
 v46:=Tryz.zeroValue48
 t51:=Tryz.underlying209
 a51:=Tryz.isAgg209
 z51:=Tryz.sizeOf209
 v51:=Tryz.zeroValue209
 t146:=Tryz.underlying355
 a146:=Tryz.isAgg355
 z146:=Tryz.sizeOf355
 v146:=Tryz.zeroValue355
 g1:=by kernel_rfl }
open Go.RowKit Go.Lib in
theorem Tryz.stringslite_Index_one (s : ByteArray) (c : UInt8) (w : World) :
   Calls Tryz.prog 158 #[.string s,.string ⟨#[c]⟩] w fun e w' => e = .returned (.int .i64 (Lib.indexByte s.data.toList c)) ∧ w' = w:=Any.stringslite_Index_one Tryz.lays219 s c w
def Tryz.lays197_ren : Go.Shelf.Ren:=⟨fun | 197 => 68 | 260 => 115 | n => n,fun | 9 => 9 | 21 => 21 | 3 => 3 | 4 => 4 | 5 => 5 | 105 => 169 | 119 => 281 | 0 => 0 | 46 => 48 | 139 => 284 | 138 => 283 | n => n,fun | 3 => 2 | 4 => 3 | n => n⟩
theorem Tryz.lays197 : Go.Proofs.Lays.n197 Tryz.prog Tryz.lays197_ren:={
 mixed:=by kernel_rfl
 f197:=Tryz.func68.trans (congrArg some (by kernel_rfl))
 f260:=Tryz.func115.trans (congrArg some (by kernel_rfl))
 t0:=Tryz.underlying0
 a0:=Tryz.isAgg0
 z0:=Tryz.sizeOf0
 v0:=Tryz.zeroValue0
 t3:=Tryz.underlying3
 a3:=Tryz.isAgg3
 z3:=Tryz.sizeOf3
 v3:=Tryz.zeroValue3
 t4:=Tryz.underlying4
 a4:=Tryz.isAgg4
 z4:=Tryz.sizeOf4
 v4:=Tryz.zeroValue4
 t5:=Tryz.underlying5
 a5:=Tryz.isAgg5
 z5:=Tryz.sizeOf5
 v5:=Tryz.zeroValue5
 t9:=Tryz.underlying9
 a9:=Tryz.isAgg9
 z9:=Tryz.sizeOf9
 v9:=Tryz.zeroValue9
 t21:=Tryz.underlying21
 a21:=Tryz.isAgg21
 z21:=Tryz.sizeOf21
 v21:=Tryz.zeroValue21
 t46:=Tryz.underlying48
 a46:=Tryz.isAgg48
 z46:=Tryz.sizeOf48
 v46:=Tryz.zeroValue48
 t105:=Tryz.underlying169
 a105:=Tryz.isAgg169
 z105:=Tryz.sizeOf169
 v105:=Tryz.zeroValue169
 t119:=Tryz.underlying281
 a119:=Tryz.isAgg281
 z119:=Tryz.sizeOf281
 t138:=Tryz.underlying283
 a138:=Tryz.isAgg283
 z138:=Tryz.sizeOf283
 v138:=Tryz.zeroValue283
 t139:=Tryz.underlying284
 a139:=Tryz.isAgg284
 z139:=Tryz.sizeOf284
 v139:=Tryz.zeroValue284
 g3:=by kernel_rfl
 g4:=by kernel_rfl }
def Tryz.lays264_ren : Go.Shelf.Ren:=⟨fun | 264 => 157 | n => n,fun | 53 => 22 | 46 => 48 | n => n,fun | n => n⟩
theorem Tryz.lays264 : Go.Proofs.Lays.n264 Tryz.prog Tryz.lays264_ren:={
 mixed:=by kernel_rfl
 f264:=Tryz.func157.trans (congrArg some (by kernel_rfl))
 t46:=Tryz.underlying48
 a46:=Tryz.isAgg48
 z46:=Tryz.sizeOf48
 v46:=Tryz.zeroValue48
 t53:=Tryz.underlying22
 a53:=Tryz.isAgg22
 z53:=Tryz.sizeOf22
 v53:=Tryz.zeroValue22 }
open Go.RowKit Go.Lib in
theorem Tryz.bits_Mul64 (x y : Nat) (hx : x < 18446744073709551616) (hy : y < 18446744073709551616) (w : World) :
   Calls Tryz.prog 157 #[.int .u64 x,.int .u64 y] w fun e w' => e = .returned (.tuple #[.int .u64 ((x * y / 18446744073709551616 : Nat) : Int),.int .u64 ((x * y % 18446744073709551616 : Nat) : Int)]) ∧ w' = w:=Any.bits_Mul64 Tryz.lays264 x y hx hy w
def Tryz.lays260_ren : Go.Shelf.Ren:=⟨fun | 260 => 115 | n => n,fun | 9 => 9 | 21 => 21 | 3 => 3 | 4 => 4 | 5 => 5 | 119 => 281 | 0 => 0 | 46 => 48 | 139 => 284 | 138 => 283 | n => n,fun | 3 => 2 | 4 => 3 | n => n⟩
theorem Tryz.lays260 : Go.Proofs.Lays.n260 Tryz.prog Tryz.lays260_ren:={
 mixed:=by kernel_rfl
 f260:=Tryz.func115.trans (congrArg some (by kernel_rfl))
 t0:=Tryz.underlying0
 a0:=Tryz.isAgg0
 z0:=Tryz.sizeOf0
 v0:=Tryz.zeroValue0
 t3:=Tryz.underlying3
 a3:=Tryz.isAgg3
 z3:=Tryz.sizeOf3
 v3:=Tryz.zeroValue3
 t4:=Tryz.underlying4
 a4:=Tryz.isAgg4
 z4:=Tryz.sizeOf4
 v4:=Tryz.zeroValue4
 t5:=Tryz.underlying5
 a5:=Tryz.isAgg5
 z5:=Tryz.sizeOf5
 v5:=Tryz.zeroValue5
 t9:=Tryz.underlying9
 a9:=Tryz.isAgg9
 z9:=Tryz.sizeOf9
 v9:=Tryz.zeroValue9
 t21:=Tryz.underlying21
 a21:=Tryz.isAgg21
 z21:=Tryz.sizeOf21
 v21:=Tryz.zeroValue21
 t46:=Tryz.underlying48
 a46:=Tryz.isAgg48
 z46:=Tryz.sizeOf48
 v46:=Tryz.zeroValue48
 t119:=Tryz.underlying281
 a119:=Tryz.isAgg281
 z119:=Tryz.sizeOf281
 t138:=Tryz.underlying283
 a138:=Tryz.isAgg283
 z138:=Tryz.sizeOf283
 v138:=Tryz.zeroValue283
 t139:=Tryz.underlying284
 a139:=Tryz.isAgg284
 z139:=Tryz.sizeOf284
 v139:=Tryz.zeroValue284
 g3:=by kernel_rfl
 g4:=by kernel_rfl }
open Go.RowKit Go.Lib in
theorem Tryz.utf8_DecodeRuneInString (s : ByteArray) (w : World) (hT : Lib.Utf8Tabs 2 3 w) :
   Calls Tryz.prog 68 #[.string s] w fun e w' => e = .returned (.tuple #[.int .i32 (Lib.decodeGo s).1,.int .i64 (Lib.decodeGo s).2]) ∧ Below w.heap.size w w':=Any.utf8_DecodeRuneInString Tryz.lays197 s w hT
end Go.Proofs
namespace Go.Proofs.YtejaocnhekjfiaaGreatDoor.S25
open Go.RowKit
set_option linter.unusedVariables false
def PR : Nat:=2305843009213693951
theorem PR_pos : 0 < PR:=by unfold PR; omega
theorem and_pr (x : Nat) (h : x < 18446744073709551616) : bits BinOp.and IntKind.u64 (x : Int) 2305843009213693951 = ((x % 2305843009213693952 : Nat) : Int):=by
 show IntKind.u64.wrap ((BitVec.ofInt 64 (x : Int) &&& BitVec.ofInt 64 2305843009213693951).toNat : Int) = _
 have e : (BitVec.ofInt 64 2305843009213693951).toNat = 2 ^ 61 - 1:=by decide
 rw [BitVec.toNat_and,e,Nat.and_two_pow_sub_one_eq_mod,BitVec.toNat_ofInt,IntKind.wrap_u64]
 omega
theorem fold_nat (x : Nat) (hx : x < 18446744073709551616) : ∃ A B S : Int,bits BinOp.and IntKind.u64 (x : Int) 2305843009213693951 = A ∧ (x : Int) / 2305843009213693952 = B ∧ A + B = S ∧ IntKind.u64.wrap S = S ∧ 0 ≤ A ∧ 0 ≤ B ∧
   (decide (2305843009213693951 ≤ S) = false ∧ S = ((x % PR : Nat) : Int) ∨ decide (2305843009213693951 ≤ S) = true ∧ S - 2305843009213693951 = ((x % PR : Nat) : Int) ∧ IntKind.u64.wrap ((x % PR : Nat) : Int) = ((x % PR : Nat) : Int)):=by
 refine ⟨_,_,_,rfl,rfl,rfl,?_,?_,?_,?_⟩
 · rw [and_pr x hx,IntKind.wrap_u64]; omega
 · rw [and_pr x hx]; omega
 · omega
 · rw [and_pr x hx,IntKind.wrap_u64]
   simp only [decide_eq_false_iff_not,decide_eq_true_eq]
   unfold PR
   by_cases h : (2305843009213693951 : Int) ≤ ((x % 2305843009213693952 : Nat) : Int) + (x : Int) / 2305843009213693952
   · right; omega
   · left; omega
attribute [irreducible] PR
set_option maxRecDepth 100000 in
theorem fold_any (x : Nat) (w : World) (hx : x < 18446744073709551616) : Calls Tryz.prog 156 #[.int .u64 x] w fun e w' => e = .returned (.int .u64 ((x % PR : Nat) : Int)) ∧ w = w':=by
 obtain ⟨A,B,S,hA,hB,hS,hW,hA0,hB0,hc⟩:=fold_nat x hx
 generalize ((x % PR : Nat) : Int) = R at *
 have HX:=Lib.hid hx
 clear hx
 generalize (x : Int) = X at *
 rcases hc with ⟨hd,he⟩ | ⟨hd,he,he2⟩
 · have HE:=Lib.hid he
   clear he
   go_enter Tryz.func156,Tryz.ntmps156
   go_wp2
   go_ret
   exact ⟨by rw [HE.out]; rfl,rfl⟩
 · go_enter Tryz.func156,Tryz.ntmps156
   go_wp2
   go_ret
   exact ⟨rfl,rfl⟩
theorem mod_pr_lt (x : Nat) : x % PR < 2305843009213693951:=by unfold PR; omega
theorem PR_eq : PR = 2305843009213693951:=by unfold PR; rfl
theorem pr_add (a b : Nat) : (a % PR + b % PR) % PR = (a + b) % PR:=(Nat.add_mod a b PR).symm
set_option maxRecDepth 100000 in
theorem add_any (a b : Nat) (w : World) (ha : a < 18446744073709551616) (hb : b < 18446744073709551616) : Calls Tryz.prog 111 #[.int .u64 a,.int .u64 b] w fun e w' => e = .returned (.int .u64 (((a + b) % PR : Nat) : Int)) ∧ w = w':=by
 have h1:=mod_pr_lt a
 have h2:=mod_pr_lt b
 have hp:=pr_add a b
 have K1:=Lib.hid (fun w => fold_any a w ha)
 have K2:=Lib.hid (fun w => fold_any b w hb)
 have K3:=Lib.hid (fun w => fold_any (a % PR + b % PR) w (by omega))
 rw [hp] at K3
 have hs : ((a % PR + b % PR : Nat) : Int) = ((a % PR : Nat) : Int) + ((b % PR : Nat) : Int):=by omega
 have hw : IntKind.u64.wrap (((a % PR : Nat) : Int) + ((b % PR : Nat) : Int)) = ((a % PR + b % PR : Nat) : Int):=by rw [IntKind.wrap_u64]; omega
 clear hp
 generalize (a + b) % PR = R at *
 generalize a % PR + b % PR = S at *
 generalize ((a % PR : Nat) : Int) = A at *
 generalize ((b % PR : Nat) : Int) = B at *
 have HX:=Lib.hid ha
 have HY:=Lib.hid hb
 clear ha hb h1 h2 hs
 go_enter Tryz.func111,Tryz.ntmps111
 go_wp2_with fail
 refine (K1.out _).mono ?_
 rintro e w1 ⟨rfl,rfl⟩
 go_wp2_with fail
 refine (K2.out _).mono ?_
 rintro e w1 ⟨rfl,rfl⟩
 go_wp2_with fail
 refine (K3.out _).mono ?_
 rintro e w1 ⟨rfl,rfl⟩
 go_wp2
 go_ret
 exact ⟨rfl,rfl⟩
theorem wraps_u64 (n : Int) (h₀ : 0 ≤ n) (h₁ : n < 2 ^ 64) : IntKind.u64.wrap n = n:=by rw [IntKind.wrap_u64]; omega
theorem mul_parts (p : Nat) (hp : p < 5316911983139663491615228241121378304) : ∃ U V W L : Int,((p / 18446744073709551616 : Nat) : Int) * 8 = U ∧ ((p % 18446744073709551616 : Nat) : Int) / 2305843009213693952 = V ∧ IntKind.u64.wrap U = U ∧
   bits BinOp.or IntKind.u64 U V = W ∧ bits BinOp.and IntKind.u64 ((p % 18446744073709551616 : Nat) : Int) 2305843009213693951 = L ∧ W = ((p / 2305843009213693952 : Nat) : Int) ∧ L = ((p % 2305843009213693952 : Nat) : Int) ∧ 0 ≤ U ∧ 0 ≤ V:=by
 have h1 : p / 18446744073709551616 < 288230376151711744:=by omega
 refine ⟨_,_,_,_,rfl,rfl,?_,rfl,rfl,?_,?_,by omega,by omega⟩
 · rw [IntKind.wrap_u64]; omega
 · have:=bits_join .u64 64 (by decide) wraps_u64 3 (((p / 18446744073709551616 : Nat) : Int) * 8) (((p % 18446744073709551616 : Nat) : Int) / 2305843009213693952) (by omega) (by omega) (by omega) (by omega) (by omega) (by omega)
   rw [this]
   omega
 · rw [and_pr _ (by omega)]
   omega
theorem mul_pr (p : Nat) : (p / 2305843009213693952 + p % 2305843009213693952) % PR = p % PR:=by
 rw [PR_eq]; omega
theorem mul_lt (a b : Nat) : (a % PR) * (b % PR) < 5316911983139663491615228241121378304:=by
 have h1:=mod_pr_lt a
 have h2:=mod_pr_lt b
 calc (a % PR) * (b % PR) ≤ 2305843009213693951 * 2305843009213693951:=Nat.mul_le_mul (by omega) (by omega)
   _ < 5316911983139663491615228241121378304:=by decide
set_option maxRecDepth 100000 in
theorem mul_any (a b : Nat) (w : World) (ha : a < 18446744073709551616) (hb : b < 18446744073709551616) : Calls Tryz.prog 112 #[.int .u64 a,.int .u64 b] w fun e w' => e = .returned (.int .u64 (((a * b) % PR : Nat) : Int)) ∧ w = w':=by
 have h1:=mod_pr_lt a
 have h2:=mod_pr_lt b
 have hp : ((a % PR) * (b % PR)) % PR = (a * b) % PR:=(Nat.mul_mod a b PR).symm
 have hlt:=mul_lt a b
 have K1:=Lib.hid (fun w => fold_any a w ha)
 have K2:=Lib.hid (fun w => fold_any b w hb)
 have K3:=Lib.hid (fun w => Tryz.bits_Mul64 (a % PR) (b % PR) (by omega) (by omega) w)
 obtain ⟨U,V,W,L,hU,hV,hUw,hW,hL,hWe,hLe,hU0,hV0⟩:=mul_parts _ hlt
 have K4:=Lib.hid (fun w => add_any ((a % PR) * (b % PR) / 2305843009213693952) ((a % PR) * (b % PR) % 2305843009213693952) w (by omega) (by omega))
 rw [mul_pr,hp] at K4
 have hWL:=Lib.hid (And.intro hWe hLe)
 clear hp hlt hWe hLe
 generalize (a % PR) * (b % PR) = p at *
 generalize (a * b) % PR = R at *
 generalize ((a % PR : Nat) : Int) = A at *
 generalize ((b % PR : Nat) : Int) = B at *
 generalize ((p / 18446744073709551616 : Nat) : Int) = H at *
 generalize ((p % 18446744073709551616 : Nat) : Int) = O at *
 have HX:=Lib.hid ha
 have HY:=Lib.hid hb
 clear ha hb h1 h2
 go_enter Tryz.func112,Tryz.ntmps112
 go_wp2_with fail
 refine (K1.out _).mono ?_
 rintro e w1 ⟨rfl,rfl⟩
 go_wp2_with fail
 refine (K2.out _).mono ?_
 rintro e w1 ⟨rfl,rfl⟩
 go_wp2_with fail
 refine (K3.out _).mono ?_
 rintro e w1 ⟨rfl,rfl⟩
 go_wp2_with fail
 obtain ⟨rfl,rfl⟩:=hWL.out
 refine (K4.out _).mono ?_
 rintro e w1 ⟨rfl,rfl⟩
 go_wp2
 go_ret
 exact ⟨rfl,rfl⟩
end Go.Proofs.YtejaocnhekjfiaaGreatDoor.S25
namespace Go.Proofs.YtejaocnhekjfiaaGreatDoor
open Go.RowKit
set_option linter.unusedVariables false
theorem wrap_u64 (x : Int) : 0 ≤ IntKind.u64.wrap x ∧ IntKind.u64.wrap x < 18446744073709551616:=by
 rw [IntKind.wrap_u64]; omega
def mixA (z d m : Int) : Int:=IntKind.u64.wrap (bits BinOp.xor IntKind.u64 z (z / d) * m)
def mixK : Nat → Int → Int
 | 0,z => z
 | 1,z => mixA z 1073741824 13787848793156543929
 | 2,z => mixA (mixA z 1073741824 13787848793156543929) 134217728 10723151780598845931
 | _ + 3,z => mixA (mixA (mixA z 1073741824 13787848793156543929) 134217728 10723151780598845931) 2147483648 1
theorem mixA_lo (z d m : Int) : 0 ≤ mixA z d m ∧ mixA z d m < 18446744073709551616:=wrap_u64 _
theorem mixK_lo (k : Nat) (z : Int) (h : 0 ≤ z ∧ z < 18446744073709551616) : 0 ≤ mixK k z ∧ mixK k z < 18446744073709551616:=by
 match k with
 | 0 => exact h
 | 1 => exact mixA_lo _ _ _
 | 2 => exact mixA_lo _ _ _
 | _ + 3 => exact mixA_lo _ _ _
def stepsV : Value:=.agg #[.int .u64 30,.int .u64 13787848793156543929,.int .u64 27,.int .u64 10723151780598845931,.int .u64 31,.int .u64 1]
set_option maxRecDepth 100000 in
theorem steps_any (w : World) : Calls Tryz.prog 155 #[] w fun e w' => e = .returned stepsV ∧ Below w.heap.size w w':=by
 go_enter Tryz.func155,Tryz.ntmps155
 go_wp2
 exact bodyPost_ret (v:=stepsV) (by simp [results,Tryz.results155,go_sem,stepsV]) rfl ⟨rfl,(Below.refl _ _).alloc (Nat.le_refl _) _⟩
theorem ix0 (w : World) : (Instr.index 278 stepsV (.int .i64 0)).run Tryz.prog w = .ok (.agg #[.int .u64 30,.int .u64 13787848793156543929]) w:=by kernel_rfl
theorem ix1 (w : World) : (Instr.index 278 stepsV (.int .i64 1)).run Tryz.prog w = .ok (.agg #[.int .u64 27,.int .u64 10723151780598845931]) w:=by kernel_rfl
theorem ix2 (w : World) : (Instr.index 278 stepsV (.int .i64 2)).run Tryz.prog w = .ok (.agg #[.int .u64 31,.int .u64 1]) w:=by kernel_rfl
theorem mix1 (z : Int) : mixA (mixK 0 z) 1073741824 13787848793156543929 = mixK 1 z:=rfl
theorem mix2 (z : Int) : mixA (mixK 1 z) 134217728 10723151780598845931 = mixK 2 z:=rfl
theorem mix3 (z : Int) : mixA (mixK 2 z) 2147483648 1 = mixK 3 z:=rfl
theorem mix3_lo (z : Int) : 0 ≤ mixK 3 z ∧ mixK 3 z < 18446744073709551616:=mixA_lo _ _ _
def mixF (z : Nat) : Nat:=(mixK 3 (z : Int)).toNat
theorem mixF_lt (z : Nat) : mixF z < 18446744073709551616:=by
 have:=mix3_lo z
 unfold mixF; omega
theorem mixF_eq (z : Nat) : mixK 3 (z : Int) = (mixF z : Int):=by
 have:=mix3_lo z
 unfold mixF; omega
set_option maxRecDepth 100000 in
set_option maxHeartbeats 1000000 in
theorem mix_any (z : Nat) (w : World) (hz : z < 18446744073709551616) : Calls Tryz.prog 110 #[.int .u64 z] w fun e w' => e = .returned (.int .u64 (mixF z)) ∧ Below w.heap.size w w':=by
 have HE:=Lib.hid (mixF_eq z)
 have HL:=Lib.hid (fun k => mixK_lo k (z : Int) ⟨by omega,by omega⟩)
 clear hz
 go_enter Tryz.func110,Tryz.ntmps110
 go_wp2_with (go_at_call 155; ((with_reducible refine (steps_any _).mono ?_)); rintro e w1 ⟨rfl,hb⟩)
 have HB0:=Lib.hid hb; clear hb
 have i0:=ix0
 have i1:=ix1
 have i2:=ix2
 generalize stepsV = sv at *
 go_loopw [0,6] (fun u0 u6 wr => ∃ k : Nat,k ≤ 3 ∧ u6 = .int .i64 k ∧ u0 = .int .u64 (mixK k z) ∧ Hid (Below w.heap.size w wr)) (fun _ u6 _ => 3 - (intOf u6).toNat)
 case atStart => exact ⟨0,by omega,rfl,rfl,Lib.hid HB0.out⟩
 case round =>
   obtain ⟨k,hk,rfl,rfl,HB⟩:=hrel
   have hl:=HL.out k
   obtain rfl | rfl | rfl | rfl : k = 0 ∨ k = 1 ∨ k = 2 ∨ k = 3:=by omega
   · generalize hm : mixK 0 (z : Int) = m at *
     have HM:=Lib.hid hm; clear hm
     go_wp2_with fail
     refine ⟨⟨1,by omega,rfl,?_,Lib.hid (HB.out.alloc HB.out.size _)⟩,by simp [intOf]⟩
     rw [← mix1,HM.out]; rfl
   · generalize hm : mixK 1 (z : Int) = m at *
     have HM:=Lib.hid hm; clear hm
     go_wp2_with fail
     refine ⟨⟨2,by omega,rfl,?_,Lib.hid (HB.out.alloc HB.out.size _)⟩,by simp [intOf]⟩
     rw [← mix2,HM.out]; rfl
   · generalize hm : mixK 2 (z : Int) = m at *
     have HM:=Lib.hid hm; clear hm
     go_wp2_with fail
     refine ⟨⟨3,by omega,rfl,?_,Lib.hid (HB.out.alloc HB.out.size _)⟩,by simp [intOf]⟩
     rw [← mix3,HM.out]; unfold mixA; rw [Int.mul_one]
   · have HM:=Lib.hid (HE.out)
     generalize mixK 3 (z : Int) = m at *
     go_wp2_with fail
     go_ret
     first
       | exact ⟨rfl,HB.out⟩
       | exact ⟨by rw [← HM.out]; rfl,HB.out⟩
def drawF (seed i : Nat) : Nat:=mixF ((seed + (i + 1) * 11400714819323198485) % 18446744073709551616)
theorem drawF_lt (seed i : Nat) : drawF seed i < 18446744073709551616:=mixF_lt _
set_option maxRecDepth 100000 in
set_option maxHeartbeats 1000000 in
theorem draw_any (seed i : Nat) (w : World) (hs : seed < 18446744073709551616) (hi : i < 18446744073709551615) : Calls Tryz.prog 65 #[.int .u64 seed,.int .u64 i] w fun e w' => e = .returned (.int .u64 (drawF seed i)) ∧ Below w.heap.size w w':=by
 have hw : IntKind.u64.wrap ((seed : Int) + IntKind.u64.wrap (((i : Int) + 1) * 11400714819323198485)) = (((seed + (i + 1) * 11400714819323198485) % 18446744073709551616 : Nat) : Int):=by
   rw [IntKind.wrap_u64,IntKind.wrap_u64]; omega
 have HM:=Lib.hid (fun w => mix_any ((seed + (i + 1) * 11400714819323198485) % 18446744073709551616) w (Nat.mod_lt _ (by omega)))
 have HD:=Lib.hid (show mixF ((seed + (i + 1) * 11400714819323198485) % 18446744073709551616) = drawF seed i from rfl)
 have h1 : (i : Int) + 1 < 18446744073709551616:=by omega
 have h0 : 0 ≤ (i : Int) + 1:=by omega
 generalize (seed + (i + 1) * 11400714819323198485) % 18446744073709551616 = t at *
 go_enter Tryz.func65,Tryz.ntmps65
 go_wp2_with fail
 refine (HM.out _).mono ?_
 rintro e w1 ⟨rfl,hb⟩
 have HB:=Lib.hid hb; clear hb
 go_wp2_with fail
 go_ret
 exact ⟨by rw [← HD.out]; rfl,HB.out⟩
def pairA (seed level row : Nat) : Nat:=1 + drawF seed (2 * (level * 8 + row)) % 2305843009213693950
def pairB (seed level row : Nat) : Nat:=drawF seed (2 * (level * 8 + row) + 1) % 2305843009213693951
theorem pairA_lt (s l r : Nat) : pairA s l r < 18446744073709551616:=by unfold pairA; omega
theorem pairB_lt (s l r : Nat) : pairB s l r < 18446744073709551616:=by unfold pairB; omega
set_option maxRecDepth 100000 in
set_option maxHeartbeats 1000000 in
theorem pair_any (seed level row : Nat) (w : World) (hs : seed < 18446744073709551616) (hl : level ≤ 59) (hr : row < 8) :
   Calls Tryz.prog 41 #[.int .u64 seed,.int .i64 level,.int .i64 row] w fun e w' => e = .returned (.tuple #[.int .u64 (pairA seed level row),.int .u64 (pairB seed level row)]) ∧ Below w.heap.size w w':=by
 have g0 : decide ((level : Int) < 0) = false:=by simp
 have g1 : decide ((59 : Int) < level) = false:=by simp; omega
 have g2 : decide ((row : Int) < 0) = false:=by simp
 have g3 : decide ((8 : Int) ≤ row) = false:=by simp; omega
 obtain ⟨t,ht⟩ : ∃ t : Nat,2 * (level * 8 + row) = t:=⟨_,rfl⟩
 have hw : 2 * ((level : Int) * 8 + (row : Int)) = (t : Int):=by omega
 have b1 : (level : Int) * 8 + (row : Int) ≤ 480:=by omega
 have b0 : (level : Int) ≤ 59:=by omega
 have t1 : (t : Int) ≤ 960:=by omega
 have K1:=Lib.hid (fun w => draw_any seed t w hs (by omega))
 have K2:=Lib.hid (fun w => draw_any seed (t + 1) w hs (by omega))
 have HD:=Lib.hid (show 1 + drawF seed t % 2305843009213693950 = pairA seed level row ∧ drawF seed (t + 1) % 2305843009213693951 = pairB seed level row by rw [← ht]; exact ⟨rfl,rfl⟩)
 have l1:=drawF_lt seed t
 have l2:=drawF_lt seed (t + 1)
 generalize drawF seed t = x1 at *
 generalize drawF seed (t + 1) = x2 at *
 have r1 : (x1 : Int) < 18446744073709551616:=by omega
 clear ht hr hl l1 l2
 go_enter Tryz.func41,Tryz.ntmps41
 go_wp2_with fail
 refine (K1.out _).mono ?_
 rintro e w1 ⟨rfl,hb⟩
 have HB:=Lib.hid hb; clear hb
 go_wp2_with fail
 refine (K2.out _).mono ?_
 rintro e w2 ⟨rfl,hb⟩
 have HB2:=Lib.hid (HB.out.then hb); clear hb HB
 go_wp2_with fail
 have HA:=Lib.hid (show 1 + (x1 : Int) % 2305843009213693950 = ((pairA seed level row : Nat) : Int) by rw [← HD.out.1]; omega)
 have HBb:=Lib.hid (show (x2 : Int) % 2305843009213693951 = ((pairB seed level row : Nat) : Int) by rw [← HD.out.2]; omega)
 go_ret2
 exact ⟨by rw [← HA.out,← HBb.out]; rfl,HB2.out⟩
def lineF (seed level row key : Nat) : Nat:=(pairA seed level row * key % S25.PR + pairB seed level row) % S25.PR
def colF (seed width level row key : Nat) : Nat:=lineF seed level row key % width
set_option maxRecDepth 100000 in
set_option maxHeartbeats 1000000 in
theorem line_any (a b x : Nat) (w : World) (ha : a < 18446744073709551616) (hb : b < 18446744073709551616) (hx : x < 18446744073709551616) :
   Calls Tryz.prog 66 #[.agg #[.int .u64 a,.int .u64 b],.int .u64 x] w fun e w' => e = .returned (.int .u64 ((a * x % S25.PR + b) % S25.PR : Nat)) ∧ Below w.heap.size w w':=by
 have K1:=fun w => (S25.mul_any a x w ha hx).turned
 have hlt : a * x % S25.PR < 18446744073709551616:=by have:=S25.mod_pr_lt (a * x); omega
 have K2:=fun w => (S25.add_any (a * x % S25.PR) b w hlt hb).turned
 have hb1:=(Below.refl w.heap.size w).alloc (Nat.le_refl _) (.cells #[.int .u64 a,.int .u64 b] 167)
 have B0:=heap_alloc_new w (.cells #[.int .u64 a,.int .u64 b] 167)
 have HB:=Lib.hid hb1
 clear hb1
 generalize a * x % S25.PR = t at *
 generalize (t + b) % S25.PR = r at *
 go_enter Tryz.func66,Tryz.ntmps66
 go_upto_region 1 with fail
 generalize w.alloc (.cells #[.int .u64 a,.int .u64 b] 167) = w1 at *
 have c0 : w1.cell? ⟨w.heap.size,0,none⟩ = some (.int .u64 a):=(cell_of_row _ _ _ _ _ _ B0).trans rfl
 have c1 : w1.cell? ⟨w.heap.size,1,none⟩ = some (.int .u64 b):=(cell_of_row _ _ _ _ _ _ B0).trans rfl
 clear B0
 go_quiet ((first | (go_at_call 112; exact Calls.quiet_of_same (K1 _)) | (go_at_call 111; exact Calls.quiet_of_same (K2 _))))
 go_wp2
 go_ret
 exact ⟨rfl,HB.out.trans ⟨rfl,rfl,rfl,Nat.le_refl _,fun _ _ => rfl⟩⟩
set_option maxRecDepth 100000 in
set_option maxHeartbeats 1000000 in
theorem bucket_any (a b x W : Nat) (w : World) (ha : a < 18446744073709551616) (hb : b < 18446744073709551616) (hx : x < 18446744073709551616) (hW : 1 ≤ W) (hW2 : W ≤ 128) :
   Calls Tryz.prog 42 #[.int .u64 a,.int .u64 b,.int .u64 x,.int .i64 W] w fun e w' => e = .returned (.int .i64 (((a * x % S25.PR + b) % S25.PR) % W : Nat)) ∧ Below w.heap.size w w':=by
 have K:=Lib.hid (fun w => line_any a b x w ha hb hx)
 have hr:=S25.mod_pr_lt (a * x % S25.PR + b)
 generalize (a * x % S25.PR + b) % S25.PR = r at *
 have g0 : decide ((W : Int) < 1) = false:=by simp; omega
 have HM:=Lib.hid (show (r : Int) % (W : Int) = ((r % W : Nat) : Int) by simp)
 have hlt : r % W < 128:=by have:=Nat.mod_lt r (show W > 0 by omega); omega
 have h1 : (0 : Int) ≤ (r : Int) % (W : Int):=by rw [HM.out]; omega
 have h2 : (r : Int) % (W : Int) ≤ 128:=by rw [HM.out]; omega
 have h3 : (1 : Int) ≤ W:=by omega
 have h4 : (W : Int) ≤ 128:=by omega
 have h5 : (r : Int) < 2305843009213693951:=by omega
 clear hlt hr hW hW2
 go_enter Tryz.func42,Tryz.ntmps42
 go_wp2_with fail
 refine (K.out _).mono ?_
 rintro e w1 ⟨rfl,hb⟩
 have HB:=Lib.hid hb; clear hb
 go_wp2_with fail
 go_ret
 exact ⟨by rw [← HM.out]; rfl,HB.out⟩
end Go.Proofs.YtejaocnhekjfiaaGreatDoor
namespace Go.Proofs.YtejaocnhekjfiaaGreatDoor
open Go.RowKit
set_option linter.unusedVariables false
theorem pow_lt59 (d : Nat) (h : d ≤ 59) : 1 ≤ 2 ^ d ∧ 2 ^ d ≤ 576460752303423488:=
 ⟨Nat.one_le_two_pow,Nat.pow_le_pow_right (by omega) h⟩
theorem pow_wrap (d : Nat) (h : d ≤ 59) : IntKind.u64.wrap (2 ^ d) = ((2 ^ d : Nat) : Int):=by
 have:=pow_lt59 d h
 have e : (2 : Int) ^ d = ((2 ^ d : Nat) : Int):=by simp
 rw [e]
 generalize 2 ^ d = t at *
 rw [IntKind.wrap_u64]; omega
def cfgV (c : Cfg) : Value:=.agg #[.int .i64 c.bits,.int .i64 c.rows,.int .i64 c.width,.int .i64 c.mode,.int .u64 c.seed]
def cfgO (c : Cfg) : Obj:=.cells #[.int .i64 c.bits,.int .i64 c.rows,.int .i64 c.width,.int .i64 c.mode,.int .u64 c.seed] 24 (0,0)
def lim4 (a b c d : Nat) : Obj:=.cells #[.int .i64 a,.int .i64 59,.int .i64 b,.int .i64 8,.int .i64 c,.int .i64 128,.int .i64 d,.int .i64 3] 225 (0,0)
set_option maxRecDepth 100000 in
set_option maxHeartbeats 2000000 in
theorem within_ok (a b c d cap : Nat) (g : Nat) (w : World) (h : w.heap[g]? = some (lim4 a b c d)) (h1 : 1 ≤ a ∧ a ≤ 59) (h2 : 1 ≤ b ∧ b ≤ 8) (h3 : 1 ≤ c ∧ c ≤ 128) (h4 : 1 ≤ d ∧ d ≤ 3) :
   Calls Tryz.prog 109 #[.slice (some ⟨g,0,none⟩) 4 cap] w fun e w' => e = .returned (.bool true) ∧ Below w.heap.size w w':=by
 have H:=Lib.hid h
 have HG:=Lib.hid (lt_of_block h)
 have a1 : decide ((a : Int) < 1) = false:=by simp; omega
 have a2 : decide ((59 : Int) < a) = false:=by simp; omega
 have b1 : decide ((b : Int) < 1) = false:=by simp; omega
 have b2 : decide ((8 : Int) < b) = false:=by simp; omega
 have c1 : decide ((c : Int) < 1) = false:=by simp; omega
 have c2 : decide ((128 : Int) < c) = false:=by simp; omega
 have d1 : decide ((d : Int) < 1) = false:=by simp; omega
 have d2 : decide ((3 : Int) < d) = false:=by simp; omega
 clear h h1 h2 h3 h4
 go_enter Tryz.func109,Tryz.ntmps109
 go_wp2_with fail
 go_loopw [7] (fun u7 wr => ∃ k : Nat,k ≤ 4 ∧ u7 = .int .i64 k ∧ Hid (Below w.heap.size w wr)) (fun u7 _ => 4 - (intOf u7).toNat)
 case atStart => exact ⟨0,by omega,rfl,Lib.hid (Below.refl _ _)⟩
 case round =>
   obtain ⟨k,hk,rfl,HB⟩:=hrel
   have hb:=(HB.out.block g HG.out).trans H.out
   have e0 : wr.cell? ⟨g,0,none⟩ = some (.int .i64 a):=(cell_of_row _ _ _ _ _ _ hb).trans rfl
   have e1 : wr.cell? ⟨g,1,none⟩ = some (.int .i64 59):=(cell_of_row _ _ _ _ _ _ hb).trans rfl
   have e2 : wr.cell? ⟨g,2,none⟩ = some (.int .i64 b):=(cell_of_row _ _ _ _ _ _ hb).trans rfl
   have e3 : wr.cell? ⟨g,3,none⟩ = some (.int .i64 8):=(cell_of_row _ _ _ _ _ _ hb).trans rfl
   have e4 : wr.cell? ⟨g,4,none⟩ = some (.int .i64 c):=(cell_of_row _ _ _ _ _ _ hb).trans rfl
   have e5 : wr.cell? ⟨g,5,none⟩ = some (.int .i64 128):=(cell_of_row _ _ _ _ _ _ hb).trans rfl
   have e6 : wr.cell? ⟨g,6,none⟩ = some (.int .i64 d):=(cell_of_row _ _ _ _ _ _ hb).trans rfl
   have e7 : wr.cell? ⟨g,7,none⟩ = some (.int .i64 3):=(cell_of_row _ _ _ _ _ _ hb).trans rfl
   clear hb
   obtain rfl | rfl | rfl | rfl | rfl : k = 0 ∨ k = 1 ∨ k = 2 ∨ k = 3 ∨ k = 4:=by omega
   · go_wp2_with fail
     exact ⟨⟨1,by omega,rfl,Lib.hid (HB.out.alloc HB.out.size _)⟩,by simp [intOf]⟩
   · go_wp2_with fail
     exact ⟨⟨2,by omega,rfl,Lib.hid (HB.out.alloc HB.out.size _)⟩,by simp [intOf]⟩
   · go_wp2_with fail
     exact ⟨⟨3,by omega,rfl,Lib.hid (HB.out.alloc HB.out.size _)⟩,by simp [intOf]⟩
   · go_wp2_with fail
     exact ⟨⟨4,by omega,rfl,Lib.hid (HB.out.alloc HB.out.size _)⟩,by simp [intOf]⟩
   · go_wp2_with fail
     go_ret
     exact ⟨rfl,HB.out⟩
def RVal (v : Value) (w : World) (e : Ending) (w' : World) : Prop:=e = .returned v ∧ Below w.heap.size w w'
set_option maxRecDepth 100000 in
set_option maxHeartbeats 2000000 in
theorem right_ok (c : Cfg) (hc : c.ok) (w : World) : Calls Tryz.prog 64 #[cfgV c] w fun e w' => e = .returned (.bool true) ∧ Below w.heap.size w w':=by
 unfold cfgV
 have hb1:=((Below.refl w.heap.size w).alloc (Nat.le_refl _) (cfgO c)).alloc (by simp) (lim4 c.bits c.rows c.width c.mode)
 have HB:=Lib.hid hb1
 have hbl:=heap_alloc_new (w.alloc (cfgO c)) (lim4 c.bits c.rows c.width c.mode)
 rw [World.size_alloc] at hbl
 have K:=Lib.hid (fun cap => within_ok c.bits c.rows c.width c.mode cap _ _ hbl ⟨hc.b1,hc.b59⟩ ⟨hc.r1,hc.r8⟩ ⟨hc.w1,hc.w8⟩ ⟨hc.m1,hc.m3⟩)
 unfold cfgO lim4 at *
 clear hc hb1 hbl
 go_enter Tryz.func64,Tryz.ntmps64
 go_wp2_with fail
 refine (K.out _).mono ?_
 rintro e w2 ⟨rfl,hb⟩
 have HB2:=Lib.hid (HB.out.trans (hb.mono HB.out.size)); clear hb
 go_wp2_with fail
 go_ret
 exact ⟨rfl,HB2.out⟩
set_option maxRecDepth 100000 in
set_option maxHeartbeats 2000000 in
theorem keys_ok (c : Cfg) (hc : c.ok) (n : Nat) (hn : n ≤ c.bits) (w : World) : Calls Tryz.prog 39 #[cfgV c,.int .i64 n] w fun e w' => e = .returned (.int .u64 (2 ^ (c.bits - n) : Nat)) ∧ Below w.heap.size w w':=by
 have K:=Lib.hid (fun w => right_ok c hc w)
 have hb0:=(Below.refl w.heap.size w).alloc (Nat.le_refl _) (cfgO c)
 have hbl:=heap_alloc_new w (cfgO c)
 have HB:=Lib.hid hb0
 unfold cfgV cfgO at *
 have g0 : decide ((n : Int) < 0) = false:=by simp
 have g1 : decide (c.bits < n) = false:=by simpa using hn
 have b59:=hc.b59
 obtain ⟨d,hd⟩ : ∃ d : Nat,c.bits - n = d:=⟨_,rfl⟩
 have hd1 : (c.bits : Int) - (n : Int) = (d : Int):=by omega
 have hd2 : d ≤ 59:=by omega
 have HD:=Lib.hid hd
 have hbb : (c.bits : Int) ≤ 59:=by omega
 clear hb0 hc hn hd b59
 generalize c.bits = bits_ at *
 generalize c.rows = rows_ at *
 generalize c.width = width_ at *
 generalize c.mode = mode_ at *
 generalize c.seed = seed_ at *
 go_enter Tryz.func39,Tryz.ntmps39
 go_wp2_with fail
 refine (K.out _).mono ?_
 rintro e w2 ⟨rfl,hb⟩
 have HB2:=Lib.hid (HB.out.trans (hb.mono HB.out.size))
 have hbl2:=(hb.block _ (lt_of_block hbl)).trans hbl
 have c0 : w2.cell? ⟨w.heap.size,0,none⟩ = some (.int .i64 bits_):=(cell_of_row _ _ _ _ _ _ hbl2).trans rfl
 clear hb hbl2 HB K hbl
 go_wp2_with fail
 go_ret
 exact ⟨by rw [HD.out,← pow_wrap d hd2]; rfl,HB2.out⟩
set_option maxRecDepth 100000 in
set_option maxHeartbeats 2000000 in
theorem exact_ok (c : Cfg) (hc : c.ok) (n : Nat) (hn : n ≤ c.bits) (w : World) : Calls Tryz.prog 124 #[cfgV c,.int .i64 n] w fun e w' => e = .returned (.bool (c.exact n)) ∧ Below w.heap.size w w':=by
 have K:=Lib.hid (fun w => keys_ok c hc n hn w)
 have hb0:=(Below.refl w.heap.size w).alloc (Nat.le_refl _) (cfgO c)
 have hbl:=heap_alloc_new w (cfgO c)
 have HB:=Lib.hid hb0
 have b59:=hc.b59
 have hp:=pow_lt59 (c.bits - n) (by omega)
 have HX:=Lib.hid (show c.exact n = decide (2 ^ (c.bits - n) ≤ c.width) from rfl)
 have hw:=hc.w8
 have hw1:=hc.w1
 have g0 : decide ((0 : Int) < ((2 ^ (c.bits - n) : Nat) : Int)) = true:=by
   generalize 2 ^ (c.bits - n) = t at *
   simp; omega
 unfold cfgV cfgO at *
 clear hb0 hc hn b59
 generalize 2 ^ (c.bits - n) = m at *
 generalize c.exact n = x at *
 generalize c.bits = bits_ at *
 generalize c.rows = rows_ at *
 generalize c.width = width_ at *
 generalize c.mode = mode_ at *
 generalize c.seed = seed_ at *
 have h1 : (width_ : Int) ≤ 128:=by omega
 go_enter Tryz.func124,Tryz.ntmps124
 go_wp2_with fail
 refine (K.out _).mono ?_
 rintro e w2 ⟨rfl,hb⟩
 have HB2:=Lib.hid (HB.out.trans (hb.mono HB.out.size))
 have hbl2:=(hb.block _ (lt_of_block hbl)).trans hbl
 have c2 : w2.cell? ⟨w.heap.size,2,none⟩ = some (.int .i64 width_):=(cell_of_row _ _ _ _ _ _ hbl2).trans rfl
 clear hb hbl2 HB K hbl
 go_wp2_with fail
 go_ret
 exact ⟨by rw [HX.out]; rfl,HB2.out⟩
end Go.Proofs.YtejaocnhekjfiaaGreatDoor
