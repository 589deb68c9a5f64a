/-
  The checker, in plain Lean: events, what was told, and which rule an event breaks.
-/
import Derived.Test.YtiefkpfjmbifcaaChecked
namespace Go.Proofs.Ytiefkpfjmbifcaa

def Word (x : Int) : Prop := 0 ≤ x ∧ x < 18446744073709551616
def Whole (x : Int) : Prop := -9223372036854775808 ≤ x ∧ x ≤ 9223372036854775807
def mx (a b : Int) : Int := if a < b then b else a

/-- A frame, as it comes in; rs: the ranges of its list. -/
structure Frm where
  (k a b c : Int) (fin : Bool) (data more : ByteArray) (la : Option Addr) (ln lc : Nat) (rs : Nat → Int × Int)
structure Ev where
  (k sp tm num many : Int) (text : ByteArray) (f : Frm)
def frL (f : Frm) : List Value := [.int .u64 f.k, .int .u64 f.a, .int .u64 f.b, .int .u64 f.c, .bool f.fin, .string f.data, .string f.more, .slice f.la f.ln f.lc]
def frV (f : Frm) : Value := .agg #[.int .u64 f.k, .int .u64 f.a, .int .u64 f.b, .int .u64 f.c, .bool f.fin, .string f.data, .string f.more, .slice f.la f.ln f.lc]
def evV (e : Ev) : Value :=
  .agg #[.int .i64 e.k, .int .i64 e.sp, .int .u64 e.tm, .int .u64 e.num, .int .u64 e.many, .string e.text,
    .int .u64 e.f.k, .int .u64 e.f.a, .int .u64 e.f.b, .int .u64 e.f.c, .bool e.f.fin, .string e.f.data, .string e.f.more, .slice e.f.la e.f.ln e.f.lc]
structure Frm.Ok (f : Frm) : Prop where
  (k : Word f.k) (a : Word f.a) (b : Word f.b) (c : Word f.c) (d : f.data.size ≤ 9223372036854775807) (n : f.ln ≤ 9223372036854775807)
structure Ev.Ok (e : Ev) : Prop where
  (k : Whole e.k) (sp : Whole e.sp) (tm : Word e.tm) (num : Word e.num) (many : Word e.many) (text : e.text.size ≤ 9223372036854775807) (f : e.f.Ok)

/-- What was told of a stream. -/
structure Strm where
  (wide sent final : Int) (known reset : Bool) (came moved : Int)
def Strm.zero : Strm := ⟨0, 0, 0, false, false, 0, 0⟩
structure Strm.Ok (x : Strm) : Prop where
  (wide : Word x.wide) (sent : Word x.sent) (final : Word x.final) (came : Word x.came) (moved : Word x.moved)

/-- What the events ahead told. -/
structure St where
  (side clock state gs gn left stage coming rest : Int) (sent : Int → Int) (asks got settled : Int → Int → Bool) (lim : Nat → Int) (wide : Int) (strm : Int → Strm) (total : Int)

def timedF (s : St) (e : Ev) : Bool := if e.k = 3 then e.tm == e.num && decide (s.clock ≤ e.num) else e.tm == s.clock
def goesF (s : St) (e : Ev) : Bool :=
  if s.stage = 1 then e.k == 8 && e.sp == s.gs else if s.stage = 2 then e.k == 4 else if s.stage = 3 then e.k == 12 else e.k != 8 && e.k != 4 && e.k != 12
def comesF (s : St) (e : Ev) : Bool :=
  if e.k = 9 then decide (0 < s.rest) && e.sp == s.coming else if e.k = 1 ∨ e.k = 2 ∨ e.k = 3 ∨ e.k = 5 ∨ e.k = 6 ∨ e.k = 7 ∨ e.k = 13 then s.rest == 0 else true
def closingF (f : Frm) : Bool := f.k == 28 || f.k == 29
def standsF (s : St) (e : Ev) : Bool :=
  if e.k = 14 then decide (s.state < e.num) && decide (e.num ≤ 4) else if e.k = 5 ∨ e.k = 6 then decide (s.state < 3) else if e.k = 8 then s.state != 2 || closingF e.f else true
def endF (f : Frm) : Int := if f.k = 4 then f.c else IntKind.u64.wrap (f.b + f.data.size)
end Go.Proofs.Ytiefkpfjmbifcaa
