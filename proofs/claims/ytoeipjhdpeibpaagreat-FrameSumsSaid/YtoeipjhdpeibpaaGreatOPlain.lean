/- Operations as plain data: which may be one. No program. -/
import Derived.Test.YtoeipjhdpeibpaaGreatRPlain
import Derived.Test.YtoeipjhdpeibpaaGreatTPlain
import Derived.Test.YtoeipjhdpeibpaaGreatVGet
namespace Go.Proofs.YtoeipjhdpeibpaaGreat
open Go

structure Opr where
  dot : Dt
  deps : List Dt
  kind : Int
  id : Idt
  ref : Idt
  text : ByteArray
  gone : List Rn
  site : Int
/-- The cells of an operation whose lists lie at dA and gA. -/
def Opr.cells (o : Opr) (dA : Option Addr) (dc : Nat) (gA : Option Addr) (gc : Nat) : Array Value :=
  #[.int .i64 o.dot.site, .int .i64 o.dot.seq, .slice dA o.deps.length dc, .int .i64 o.kind, .int .i64 o.id.time, .int .i64 o.id.site, .int .i64 o.ref.time, .int .i64 o.ref.site, .string o.text, .slice gA o.gone.length gc, .int .i64 o.site]
/-- The cells of what can be compared, beside what all kinds have. -/
def restC (id ref : Idt) (text : ByteArray) (site : Int) : Array Value := #[.int .i64 id.time, .int .i64 id.site, .int .i64 ref.time, .int .i64 ref.site, .string text, .int .i64 site]
end Go.Proofs.YtoeipjhdpeibpaaGreat
