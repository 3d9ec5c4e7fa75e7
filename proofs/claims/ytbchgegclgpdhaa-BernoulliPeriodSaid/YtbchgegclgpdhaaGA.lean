/- All functions. -/
import Derived.Test.YtbchgegclgpdhaaG0
import Derived.Test.YtbchgegclgpdhaaG1
import Derived.Test.YtbchgegclgpdhaaG2
import Derived.Test.YtbchgegclgpdhaaG3
import Derived.Test.YtbchgegclgpdhaaG4
