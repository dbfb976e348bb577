/- slices.Clone, Grow, Concat at bytes. -/
import Derived.Test.YtblidiecahpekaaClone
import Derived.Test.YtblidiecahpekaaGrow
